/- How the values and the heap of the evaluator stand for those of the model, and its changes of memory. Conditions: none. -/
import Derived.Test.YtlnhefoegllpmaaGreatDoorEvA
import Derived.WalkKit
/- Plain lemmas on the evaluator's data: finite maps and lists. -/
namespace Go.SK
open Go

@[simp] theorem T.get_e {α : Type} (k : Nat) : (T.e : T α).get k = none := rfl
theorem T.get_n0 {α : Type} (l : T α) (v : Option α) (r : T α) : (T.n l v r).get 0 = v := rfl
theorem T.get_ns {α : Type} (l : T α) (v : Option α) (r : T α) (k : Nat) :
    (T.n l v r).get (k + 1) = if k % 2 = 0 then l.get (k / 2) else r.get (k / 2) := by
  show Nat.rec (motive := fun _ => Option α) (l.get (Nat.div k 2)) (fun _ _ => r.get (Nat.div k 2)) (Nat.mod k 2) = _
  have e : Nat.mod k 2 = k % 2 := rfl
  rw [e]
  rcases Nat.mod_two_eq_zero_or_one k with h | h <;> rw [h] <;> rfl
theorem T.one_0 {α : Type} (v : Option α) (f : Nat) : T.one v (f + 1) 0 = .n .e v .e := rfl
theorem T.one_s {α : Type} (v : Option α) (f k : Nat) :
    T.one v (f + 1) (k + 1) = if k % 2 = 0 then .n (T.one v f (k / 2)) none .e else .n .e none (T.one v f (k / 2)) := by
  show Nat.rec (motive := fun _ => T α) (T.n (T.one v f (Nat.div k 2)) none .e) (fun _ _ => T.n .e none (T.one v f (Nat.div k 2))) (Nat.mod k 2) = _
  have e : Nat.mod k 2 = k % 2 := rfl
  rw [e]
  rcases Nat.mod_two_eq_zero_or_one k with h | h <;> rw [h] <;> rfl
theorem T.get_one {α : Type} (v : Option α) (f : Nat) : ∀ k j, k < f → (T.one v f k).get j = if j = k then v else none := by
  induction f with
  | zero => intro k j h; omega
  | succ f ih =>
    intro k j h
    cases k with
    | zero =>
      rw [T.one_0]
      cases j with
      | zero => simp [T.get_n0]
      | succ j => rw [T.get_ns]; simp
    | succ k =>
      rw [T.one_s]
      have hk : k / 2 < f := by omega
      cases j with
      | zero => split <;> simp [T.get_n0]
      | succ j =>
        split <;> rename_i hk2 <;> rw [T.get_ns] <;> split <;> rename_i hj2
        · rw [ih _ _ hk]; by_cases e : j = k
          · subst e; simp
          · rw [if_neg (by omega), if_neg (by omega)]
        · rw [T.get_e, if_neg (by omega)]
        · rw [T.get_e, if_neg (by omega)]
        · rw [ih _ _ hk]; by_cases e : j = k
          · subst e; simp
          · rw [if_neg (by omega), if_neg (by omega)]
theorem T.set_e {α : Type} (k : Nat) (v : Option α) : (T.e : T α).set k v = T.one v (k + 1) k := rfl
theorem T.set_n0 {α : Type} (l : T α) (u : Option α) (r : T α) (v : Option α) : (T.n l u r).set 0 v = .n l v r := rfl
theorem T.set_ns {α : Type} (l : T α) (u : Option α) (r : T α) (k : Nat) (v : Option α) :
    (T.n l u r).set (k + 1) v = if k % 2 = 0 then .n (l.set (k / 2) v) u r else .n l u (r.set (k / 2) v) := by
  show Nat.rec (motive := fun _ => T α) (T.n (l.set (Nat.div k 2) v) u r) (fun _ _ => T.n l u (r.set (Nat.div k 2) v)) (Nat.mod k 2) = _
  have e : Nat.mod k 2 = k % 2 := rfl
  rw [e]
  rcases Nat.mod_two_eq_zero_or_one k with h | h <;> rw [h] <;> rfl
theorem T.get_set {α : Type} (t : T α) : ∀ (k j : Nat) (v : Option α), (t.set k v).get j = if j = k then v else t.get j := by
  induction t with
  | e => intro k j v; rw [T.set_e, T.get_one _ _ _ _ (by omega)]; rfl
  | n l u r ihl ihr =>
    intro k j v
    cases k with
    | zero =>
      rw [T.set_n0]
      cases j with
      | zero => simp [T.get_n0]
      | succ j => simp [T.get_ns]
    | succ k =>
      rw [T.set_ns]
      cases j with
      | zero => split <;> simp [T.get_n0]
      | succ j =>
        split <;> rename_i hk2 <;> rw [T.get_ns, T.get_ns] <;> split <;> rename_i hj2
        · rw [ihl]; by_cases e : j = k
          · subst e; simp
          · rw [if_neg (by omega), if_neg (by omega)]
        · rw [if_neg (by omega)]
        · rw [if_neg (by omega)]
        · rw [ihr]; by_cases e : j = k
          · subst e; simp
          · rw [if_neg (by omega), if_neg (by omega)]
theorem T.get_set_same {α : Type} (t : T α) (k : Nat) (v : Option α) : (t.set k v).get k = v := by rw [T.get_set]; simp
theorem T.get_set_other {α : Type} (t : T α) {k j : Nat} (v : Option α) (h : j ≠ k) : (t.set k v).get j = t.get j := by rw [T.get_set]; simp [h]

theorem one_set {α : Type} (u v : Option α) (f : Nat) : ∀ k, k < f → (T.one u f k).set k v = T.one v f k := by
  induction f with
  | zero => intro k h; omega
  | succ f ih =>
    intro k h
    cases k with
    | zero => rw [T.one_0, T.one_0, T.set_n0]
    | succ k =>
      rw [T.one_s, T.one_s]
      split <;> rename_i c <;> rw [T.set_ns]
      · rw [if_pos c, ih _ (by omega)]
      · rw [if_neg c, ih _ (by omega)]
theorem set_set {α : Type} (t : T α) : ∀ (k : Nat) (u v : Option α), (t.set k u).set k v = t.set k v := by
  induction t with
  | e => intro k u v; rw [T.set_e, T.set_e, one_set _ _ _ _ (by omega)]
  | n l x r ihl ihr =>
    intro k u v
    cases k with
    | zero => rw [T.set_n0, T.set_n0, T.set_n0]
    | succ k =>
      rw [T.set_ns, T.set_ns]
      split <;> rename_i c <;> rw [T.set_ns]
      · rw [if_pos c, ihl]
      · rw [if_neg c, ihr]

theorem nth_eq {α : Type} : ∀ (l : List α) (k : Nat), nth l k = l[k]?
  | [], k => by simp [nth]
  | a :: l, 0 => by simp [nth]
  | a :: l, k + 1 => by simp [nth, nth_eq l k]
theorem takeN_eq {α : Type} : ∀ (n : Nat) (l r : List α), takeN n l = some r → n ≤ l.length ∧ r = l.take n
  | 0, l, r, h => by simp [takeN] at h; simp [← h]
  | n + 1, [], r, h => by simp [takeN] at h
  | n + 1, a :: l, r, h => by
    simp only [takeN] at h
    split at h
    · cases h
    · rename_i s hs
      cases h
      obtain ⟨h1, h2⟩ := takeN_eq n l _ hs
      simp; exact ⟨h1, h2⟩
theorem dropN_eq {α : Type} : ∀ (n : Nat) (l r : List α), dropN n l = some r → n ≤ l.length ∧ r = l.drop n
  | 0, l, r, h => by simp [dropN] at h; simp [← h]
  | n + 1, [], r, h => by simp [dropN] at h
  | n + 1, a :: l, r, h => by
    simp only [dropN] at h
    obtain ⟨h1, h2⟩ := dropN_eq n l r h
    simp; exact ⟨h1, h2⟩
theorem part_eq {l r : List AV} {o n : Nat} (h : part l o n = some r) : o + n ≤ l.length ∧ r = (l.drop o).take n := by
  unfold part at h
  split at h
  · cases h
  · rename_i s hs
    obtain ⟨h1, h2⟩ := dropN_eq _ _ _ hs
    obtain ⟨h3, h4⟩ := takeN_eq _ _ _ h
    subst h2
    simp at h3
    exact ⟨by omega, h4⟩
theorem over_eq {α : Type} : ∀ (xs l r : List α), over xs l = some r → xs.length ≤ l.length ∧ r.length = l.length ∧ ∀ i, r[i]? = if i < xs.length then xs[i]? else l[i]?
  | [], l, r, h => by simp [over] at h; subst h; simp
  | x :: xs, [], r, h => by simp [over] at h
  | x :: xs, b :: l, r, h => by
    simp only [over] at h
    split at h
    · cases h
    · rename_i s hs
      cases h
      obtain ⟨h1, h2, h3⟩ := over_eq xs l s hs
      refine ⟨by simp; omega, by simp; omega, fun i => ?_⟩
      cases i with
      | zero => simp
      | succ i => simp [h3 i]
theorem splice_eq {α : Type} : ∀ (k : Nat) (xs l r : List α), splice k xs l = some r → k + xs.length ≤ l.length ∧ r.length = l.length ∧
    ∀ i, r[i]? = if k ≤ i ∧ i < k + xs.length then xs[i - k]? else l[i]?
  | 0, xs, l, r, h => by
    have h' : over xs l = some r := by cases l <;> exact h
    obtain ⟨h1, h2, h3⟩ := over_eq xs l r h'
    refine ⟨by omega, h2, fun i => ?_⟩
    rw [h3]; simp
  | k + 1, xs, [], r, h => by simp [splice] at h
  | k + 1, xs, b :: l, r, h => by
    simp only [splice] at h
    split at h
    · cases h
    · rename_i s hs
      cases h
      obtain ⟨h1, h2, h3⟩ := splice_eq k xs l s hs
      refine ⟨by simp; omega, by simp; omega, fun i => ?_⟩
      cases i with
      | zero => simp
      | succ i =>
        rw [List.getElem?_cons_succ, h3 i]
        by_cases c : k ≤ i ∧ i < k + xs.length
        · rw [if_pos c, if_pos (by omega)]; congr 1; omega
        · rw [if_neg c, if_neg (by omega)]; simp
theorem len_eq {α : Type} : ∀ (l : List α), len l = l.length
  | [] => rfl
  | _ :: l => by simp [len, len_eq l]
theorem reps_eq (z : List AV) : ∀ n, (reps n z).length = n * z.length
  | 0 => by simp [reps]
  | n + 1 => by simp [reps, reps_eq z n, Nat.succ_mul, Nat.add_comm]

end Go.SK

/- How the evaluator's values and heap stand for the model's. -/
namespace Go.SK
open Go

/-- where an object of the evaluator lies: block, offset, the block's cells, cells an element -/
structure Loc where
  blk : Nat
  off : Nat
  size : Nat
  esz : Nat

abbrev Sg := Nat → Option Loc

def Sg.le (σ τ : Sg) : Prop := ∀ i l, σ i = some l → τ i = some l
theorem Sg.le_refl (σ : Sg) : σ.le σ := fun _ _ h => h
theorem Sg.le_trans {a b c : Sg} (h : a.le b) (k : b.le c) : a.le c := fun i l e => k i l (h i l e)
def Sg.ext (σ : Sg) (n : Nat) (l : Loc) : Sg := fun i => if i = n then some l else σ i
theorem Sg.le_ext {σ : Sg} {n : Nat} {l : Loc} (h : σ n = none) : σ.le (σ.ext n l) := fun i k e => by
  unfold Sg.ext; split
  · rename_i hi; subst hi; rw [h] at e; cases e
  · exact e
theorem Sg.ext_same (σ : Sg) (n : Nat) (l : Loc) : σ.ext n l n = some l := by simp [Sg.ext]
theorem Sg.ext_other (σ : Sg) {n i : Nat} (l : Loc) (h : i ≠ n) : σ.ext n l i = σ i := by simp [Sg.ext, h]

def Loc.at (l : Loc) (o : Nat) : Addr := ⟨l.blk, l.off + o, none⟩

def FR (σ : Sg) : Fn → Fn → Prop
  | .yield i, g => ∃ l, σ i = some l ∧ g = .yield l.blk
  | f, g => g = f

def sc : AV → Prop
  | .agg _ | .tup _ => False
  | _ => True

mutual
def VR (σ : Sg) : AV → Value → Prop
  | .bool b, v => v = .bool b
  | .int k n, v => v = .int k n
  | .flt k b, v => v = .float k b
  | .cpx k a b, v => v = .complex k a b
  | .str s, v => ∃ t, v = .string t ∧ t.data.toList.map UInt8.toNat = s
  | .nilp, v => v = .pointer none
  | .ptr b o, v => ∃ l, σ b = some l ∧ v = .pointer (some (l.at o))
  | .glob g o, v => v = .pointer (some ⟨g, o, none⟩)
  | .nils, v => v = .slice none 0 0
  | .slc b o n (some c), v => ∃ l, σ b = some l ∧ v = .slice (some (l.at o)) n c ∧ n ≤ c
  | .slc b o n none, v => ∃ l c, σ b = some l ∧ v = .slice (some (l.at o)) n c ∧ n ≤ c ∧ l.off + o + c * l.esz ≤ l.size
  | .mp none, v => v = .map none
  | .mp (some r), v => ∃ l, σ r = some l ∧ v = .map (some l.blk)
  | .func fn f c, v => ∃ g xs ys, v = .func g xs ys ∧ FR σ fn g ∧ VRs σ f xs.toList ∧ VRs σ c ys.toList
  | .nilf, v => v = .nilFunc
  | .ifc t a, v => ∃ x, v = .iface t x ∧ VR σ a x
  | .nili, v => v = .nilIface
  | .agg cs, v => ∃ xs, v = .agg xs ∧ VRs σ cs xs.toList ∧ ∀ a ∈ cs, sc a
  | .tup vs, v => ∃ xs, v = .tuple xs ∧ VRs σ vs xs.toList
def VRs (σ : Sg) : List AV → List Value → Prop
  | [], l => l = []
  | a :: as, l => ∃ v vs, l = v :: vs ∧ VR σ a v ∧ VRs σ as vs
end

theorem FR.mono {σ τ : Sg} (h : σ.le τ) {f g : Fn} (k : FR σ f g) : FR τ f g := by
  cases f <;> first
    | exact k
    | (obtain ⟨l, h1, h2⟩ := k; exact ⟨l, h _ _ h1, h2⟩)

mutual
theorem VR.mono {σ τ : Sg} (h : σ.le τ) : ∀ (a : AV) (v : Value), VR σ a v → VR τ a v
  | .bool b, v, k => k
  | .int _ _, v, k => k
  | .flt _ _, v, k => k
  | .cpx _ _ _, v, k => k
  | .str _, v, k => k
  | .nilp, v, k => k
  | .ptr b o, v, k => by simp only [VR] at k ⊢; obtain ⟨l, h1, h2⟩ := k; exact ⟨l, h _ _ h1, h2⟩
  | .glob _ _, v, k => k
  | .nils, v, k => k
  | .slc b o n (some c), v, k => by simp only [VR] at k ⊢; obtain ⟨l, h1, h2⟩ := k; exact ⟨l, h _ _ h1, h2⟩
  | .slc b o n none, v, k => by simp only [VR] at k ⊢; obtain ⟨l, c, h1, h2⟩ := k; exact ⟨l, c, h _ _ h1, h2⟩
  | .mp none, v, k => k
  | .mp (some r), v, k => by simp only [VR] at k ⊢; obtain ⟨l, h1, h2⟩ := k; exact ⟨l, h _ _ h1, h2⟩
  | .func fn f c, v, k => by
    simp only [VR] at k ⊢
    obtain ⟨g, xs, ys, h1, h2, h3, h4⟩ := k
    exact ⟨g, xs, ys, h1, h2.mono h, VRs.mono h f _ h3, VRs.mono h c _ h4⟩
  | .nilf, v, k => k
  | .ifc t a, v, k => by simp only [VR] at k ⊢; obtain ⟨x, h1, h2⟩ := k; exact ⟨x, h1, VR.mono h a x h2⟩
  | .nili, v, k => k
  | .agg cs, v, k => by simp only [VR] at k ⊢; obtain ⟨xs, h1, h2, h3⟩ := k; exact ⟨xs, h1, VRs.mono h cs _ h2, h3⟩
  | .tup vs, v, k => by simp only [VR] at k ⊢; obtain ⟨xs, h1, h2⟩ := k; exact ⟨xs, h1, VRs.mono h vs _ h2⟩
theorem VRs.mono {σ τ : Sg} (h : σ.le τ) : ∀ (as : List AV) (vs : List Value), VRs σ as vs → VRs τ as vs
  | [], l, k => k
  | a :: as, l, k => by
    simp only [VRs] at k ⊢
    obtain ⟨v, vs, h1, h2, h3⟩ := k
    exact ⟨v, vs, h1, VR.mono h a v h2, VRs.mono h as vs h3⟩
end

theorem VRs.len {σ : Sg} : ∀ {as : List AV} {vs : List Value}, VRs σ as vs → vs.length = as.length
  | [], _, k => by simp only [VRs] at k; subst k; rfl
  | _ :: _, _, k => by simp only [VRs] at k; obtain ⟨v, vs, rfl, _, h⟩ := k; simp [VRs.len h]
theorem VRs.get {σ : Sg} : ∀ {as : List AV} {vs : List Value}, VRs σ as vs → ∀ (i : Nat) a, as[i]? = some a → ∃ v, vs[i]? = some v ∧ VR σ a v
  | [], _, _, i, a, h => by simp at h
  | _ :: _, _, k, i, a, h => by
    simp only [VRs] at k
    obtain ⟨v, vs, rfl, h1, h2⟩ := k
    cases i with
    | zero => simp at h; subst h; exact ⟨v, by simp, h1⟩
    | succ i => simp at h; simpa using VRs.get h2 i a h
theorem VRs.of_get {σ : Sg} : ∀ {as : List AV} {vs : List Value}, vs.length = as.length → (∀ (i : Nat) a, as[i]? = some a → ∃ v, vs[i]? = some v ∧ VR σ a v) → VRs σ as vs
  | [], vs, hl, _ => by simp at hl; simp [VRs, hl]
  | a :: as, [], hl, _ => by simp at hl
  | a :: as, v :: vs, hl, h => by
    simp only [VRs]
    refine ⟨v, vs, rfl, ?_, ?_⟩
    · obtain ⟨w, h1, h2⟩ := h 0 a (by simp); simp at h1; subst h1; exact h2
    · exact VRs.of_get (by simpa using hl) fun i b hb => by simpa using h (i + 1) b (by simpa using hb)
theorem VRs.append {σ : Sg} : ∀ {as bs : List AV} {vs ws : List Value}, VRs σ as vs → VRs σ bs ws → VRs σ (as ++ bs) (vs ++ ws)
  | [], _, _, _, h, k => by simp only [VRs] at h; subst h; exact k
  | _ :: _, _, _, _, h, k => by
    simp only [VRs] at h
    obtain ⟨v, vs, rfl, h1, h2⟩ := h
    simp only [List.cons_append, VRs]
    exact ⟨v, _, rfl, h1, VRs.append h2 k⟩
theorem VRs.take {σ : Sg} {as : List AV} {vs : List Value} (h : VRs σ as vs) (n : Nat) : VRs σ (as.take n) (vs.take n) :=
  VRs.of_get (by simp [h.len]) fun i a hi => by
    rw [List.getElem?_take] at hi ⊢
    split at hi
    · rename_i hlt; rw [if_pos hlt]; exact h.get i a hi
    · cases hi
theorem VRs.drop {σ : Sg} {as : List AV} {vs : List Value} (h : VRs σ as vs) (n : Nat) : VRs σ (as.drop n) (vs.drop n) :=
  VRs.of_get (by simp [h.len]) fun i a hi => by
    rw [List.getElem?_drop] at hi ⊢
    exact h.get _ a hi

/-- scalars stand for what one cell holds -/
theorem VR.one {σ : Sg} {a : AV} {v : Value} (h : VR σ a v) (ha : sc a) : v.oneCell' = true := by
  cases a with
  | agg _ => exact ha.elim
  | tup _ => exact ha.elim
  | slc b o n c => cases c <;> simp only [VR] at h <;> (obtain ⟨l, h⟩ := h) <;> first | (obtain ⟨_, rfl, _⟩ := h; rfl) | (obtain ⟨c, _, rfl, _⟩ := h; rfl)
  | mp r => cases r <;> simp only [VR] at h <;> first | (subst h; rfl) | (obtain ⟨l, _, rfl⟩ := h; rfl)
  | func fn f c => simp only [VR] at h; obtain ⟨g, xs, ys, rfl, _⟩ := h; rfl
  | str s => simp only [VR] at h; obtain ⟨t, rfl, _⟩ := h; rfl
  | ptr b o => simp only [VR] at h; obtain ⟨l, _, rfl⟩ := h; rfl
  | ifc t a => simp only [VR] at h; obtain ⟨x, rfl, _⟩ := h; rfl
  | _ => simp only [VR] at h; subst h; rfl

/-- a value's cells -/
theorem VR.cells {σ : Sg} {a : AV} {v : Value} {cs : List AV} (h : VR σ a v) (hc : a.cells = some cs) : VRs σ cs v.cells.toList ∧ ∀ x ∈ cs, sc x := by
  by_cases ha : sc a
  · have h1 := h.one ha
    have e : cs = [a] := by cases a <;> simp_all [AV.cells, sc]
    subst e
    have e2 : v.cells = #[v] := by cases v <;> simp_all [Value.cells, Value.oneCell']
    rw [e2]
    exact ⟨by simp only [VRs]; exact ⟨v, [], rfl, h, rfl⟩, by simpa using ha⟩
  · cases a <;> simp_all [sc, AV.cells]
    simp only [VR] at h
    obtain ⟨xs, rfl, h1, h2⟩ := h
    exact ⟨h1, h2⟩

/-- the relation of environments -/
def TmR (σ : Sg) (tm : T AV) (tmps : Array Value) : Prop := ∀ t a, tm.get t = some a → ∃ v, tmps[t]? = some v ∧ VR σ a v

theorem TmR.mono {σ τ : Sg} (h : σ.le τ) {tm : T AV} {tmps : Array Value} (k : TmR σ tm tmps) : TmR τ tm tmps :=
  fun t a e => let ⟨v, h1, h2⟩ := k t a e; ⟨v, h1, h2.mono h⟩

def EnvR (σ : Sg) (E : Env) (tmps : Array Value) : Prop := ∀ t a, look E.tm t E.loc = some a → ∃ v, tmps[t]? = some v ∧ VR σ a v

/-- no cell of the block is marked as a string's -/
def Calm (xs : Array Value) (fz : Nat × Nat) : Prop := fz.1 = fz.2 ∨ xs.size ≤ fz.1

theorem Calm.free {xs : Array Value} {fz : Nat × Nat} (h : Calm xs fz) (k : Nat) (hk : k < xs.size) : (decide (fz.1 ≤ k) && decide (k < fz.2)) = false := by
  unfold Calm at h
  rw [Bool.and_eq_false_iff]
  by_cases c : fz.1 ≤ k
  · right; simp; omega
  · left; simp; omega

def ckR : CK → Array Value → Nat × Nat → Prop
  | .own, _, fz => fz = (0, 0)
  | .str, xs, fz => Calm xs fz
  | .ro, _, _ => True

/-- entries of maps -/
def EsR (σ : Sg) : List (AV × AV) → List MapEntry → Prop
  | [], l => l = []
  | (k, v) :: es, l => ∃ e r, l = e :: r ∧ VR σ k e.key ∧ VR σ v e.val ∧ EsR σ es r

/-- keys are of one kind and no two are one -/
def keysOk (es : List (AV × AV)) : Prop := (∃ d, ∀ p ∈ es, keyOkD d p.1 = true) ∧ (es.map Prod.fst).Nodup

def OR (P : Program) (σ : Sg) (w : World) (l : Loc) : AObj → Prop
  | .cells cs e k => ∃ xs fz, w.heap[l.blk]? = some (.cells xs e fz) ∧ xs.size = l.size ∧ l.off + cs.length ≤ xs.size ∧
      (∀ i a, cs[i]? = some a → ∃ v, xs[l.off + i]? = some v ∧ VR σ a v) ∧ (∀ a ∈ cs, sc a) ∧ ckR k xs fz ∧ (P.info? e).map (·.size) = some l.esz
  | .map es => ∃ ces clock ds, w.heap[l.blk]? = some (.map ces clock) ∧ ces.toList.Perm ds ∧ EsR σ es ds ∧ keysOk es
  | .mapIter m => ∃ since seen stepped, w.heap[l.blk]? = some (.mapIter (m.bind fun r => (σ r).map (·.blk)) since seen stepped) ∧ (∀ r, m = some r → (σ r).isSome) ∧ l.off = 0
  | .strIter s pos => ∃ t, w.heap[l.blk]? = some (.stringIter t pos) ∧ (t.data.toList.map UInt8.toNat).drop pos = s ∧ l.off = 0
  | .loop st pd fn tm ps as bd d => ∃ f tmps ld, tmps.size = ntOf P fn ∧ σ d = some ld ∧ w.heap[l.blk]? = some (.loop { state := st, pending := pd, fn := f, tmps, params := ps.toArray, assign := as, body := bd, defers := ld.blk }) ∧ TmR σ tm tmps
  | .defd o => w.heap[l.blk]? = some (.deferred (if o then some [] else none))

structure Rel (P : Program) (w0 : World) (σ : Sg) (nx : Nat) (H : Heap) (w : World) : Prop where
  fresh : ∀ i, nx ≤ i → σ i = none
  dom : ∀ i o, H.get i = some o → ∃ l, σ i = some l ∧ OR P σ w l o
  inj : ∀ i j oi oj li lj, H.get i = some oi → H.get j = some oj → σ i = some li → σ j = some lj → li.blk = lj.blk → i = j
  own : ∀ i o l, H.get i = some o → σ i = some l → (∀ cs e, o ≠ .cells cs e .ro) → w0.heap.size ≤ l.blk
  below : RowKit.Below w0.heap.size w0 w

end Go.SK

/- Memory: what reading, writing and making does to both heaps. -/
namespace Go.SK
open Go

theorem EsR.mono {σ τ : Sg} (h : σ.le τ) : ∀ {es : List (AV × AV)} {ds : List MapEntry}, EsR σ es ds → EsR τ es ds
  | [], _, k => k
  | (a, b) :: es, _, k => by
    simp only [EsR] at k ⊢
    obtain ⟨e, r, rfl, h1, h2, h3⟩ := k
    exact ⟨e, r, rfl, h1.mono h, h2.mono h, EsR.mono h h3⟩

/-- an object stands for what its own block holds, and for nothing else -/
theorem OR.congr {P : Program} {σ τ : Sg} {w w' : World} {l : Loc} {o : AObj} (h : OR P σ w l o) (hs : σ.le τ) (hw : w'.heap[l.blk]? = w.heap[l.blk]?) : OR P τ w' l o := by
  cases o with
  | cells cs e k =>
    simp only [OR] at h ⊢
    obtain ⟨xs, fz, h1, h2, h3, h4, h5⟩ := h
    exact ⟨xs, fz, hw.trans h1, h2, h3, fun i a hi => let ⟨v, a1, a2⟩ := h4 i a hi; ⟨v, a1, a2.mono hs⟩, h5⟩
  | map es =>
    simp only [OR] at h ⊢
    obtain ⟨ces, clock, ds, h1, h2, h3, h4⟩ := h
    exact ⟨ces, clock, ds, hw.trans h1, h2, h3.mono hs, h4⟩
  | mapIter m =>
    simp only [OR] at h ⊢
    obtain ⟨since, seen, stepped, h1, h2, h9⟩ := h
    refine ⟨since, seen, stepped, ?_, fun r hr => ?_, h9⟩
    · rw [hw, h1]
      cases m with
      | none => rfl
      | some r =>
        have := h2 r rfl
        obtain ⟨lr, hlr⟩ := Option.isSome_iff_exists.1 this
        simp [hlr, hs _ _ hlr]
    · obtain ⟨lr, hlr⟩ := Option.isSome_iff_exists.1 (h2 r hr)
      simp [hs _ _ hlr]
  | strIter s pos =>
    simp only [OR] at h ⊢
    obtain ⟨t, h1, h2⟩ := h
    exact ⟨t, hw.trans h1, h2⟩
  | loop st pd fn tm ps as bd d =>
    simp only [OR] at h ⊢
    obtain ⟨f, tmps, ld, h0, h1, h2, h3⟩ := h
    exact ⟨f, tmps, ld, h0, hs _ _ h1, hw.trans h2, h3.mono hs⟩
  | defd o => simp only [OR] at h ⊢; exact hw.trans h

theorem OR.lt {P : Program} {σ : Sg} {w : World} {l : Loc} {o : AObj} (h : OR P σ w l o) : l.blk < w.heap.size := by
  have : ∃ x, w.heap[l.blk]? = some x := by
    cases o <;> simp only [OR] at h
    · obtain ⟨xs, fz, h1, _⟩ := h; exact ⟨_, h1⟩
    · obtain ⟨a, b, c, h1, _⟩ := h; exact ⟨_, h1⟩
    · obtain ⟨a, b, c, h1, _⟩ := h; exact ⟨_, h1⟩
    · obtain ⟨a, h1, _⟩ := h; exact ⟨_, h1⟩
    · obtain ⟨a, b, c, _, _, h1, _⟩ := h; exact ⟨_, h1⟩
    · exact ⟨_, h⟩
  obtain ⟨x, hx⟩ := this
  exact (Array.getElem?_eq_some_iff.1 hx).1

section
variable {P : Program} {w0 : World} {σ : Sg} {nx : Nat} {H : Heap} {w : World}

theorem Rel.lt_nx (h : Rel P w0 σ nx H w) {i : Nat} {o : AObj} (hi : H.get i = some o) : i < nx := by
  obtain ⟨l, h1, _⟩ := h.dom i o hi
  rcases Nat.lt_or_ge i nx with c | c
  · exact c
  · rw [h.fresh i c] at h1; cases h1

theorem Rel.ofSame {w' : World} (h : Rel P w0 σ nx H w) (hh : ∀ k : Nat, w'.heap[k]? = w.heap[k]?) (hb : RowKit.Below w0.heap.size w0 w') : Rel P w0 σ nx H w' :=
  ⟨h.fresh, fun i o hi => let ⟨l, h1, h2⟩ := h.dom i o hi; ⟨l, h1, h2.congr (Sg.le_refl _) (hh _)⟩, h.inj, h.own, hb⟩

theorem Rel.drew (h : Rel P w0 σ nx H w) : Rel P w0 σ nx H w.drew := h.ofSame (fun _ => rfl) h.below.drew

/-- a new object -/
theorem Rel.alloc (h : Rel P w0 σ nx H w) (ob : Obj) (o : AObj) (l : Loc) (hl : l.blk = w.heap.size)
    (ho : OR P (σ.ext nx l) (w.alloc ob) l o) : Rel P w0 (σ.ext nx l) (nx + 1) (H.set nx (some o)) (w.alloc ob) := by
  have hf : σ nx = none := h.fresh nx (Nat.le_refl _)
  have hle : σ.le (σ.ext nx l) := Sg.le_ext hf
  have old : ∀ i o', i ≠ nx → (H.set nx (some o)).get i = some o' → H.get i = some o' := fun i o' hne hi => by rwa [T.get_set_other _ _ hne] at hi
  have oldLoc : ∀ i o' li, H.get i = some o' → (σ.ext nx l) i = some li → σ i = some li := fun i o' li hi hli => by
    rwa [Sg.ext_other _ _ (Nat.ne_of_lt (h.lt_nx hi))] at hli
  have ltOld : ∀ i o' li, H.get i = some o' → σ i = some li → li.blk < w.heap.size := fun i o' li hi hli => by
    obtain ⟨l', h1, h2⟩ := h.dom i o' hi; rw [hli] at h1; cases h1; exact h2.lt
  refine ⟨fun i hi => ?_, fun i o' hi => ?_, fun i j oi oj li lj hi hj hli hlj e => ?_, fun i o' li hi hli hro => ?_, ?_⟩
  · rw [Sg.ext_other _ _ (by omega)]; exact h.fresh i (by omega)
  · by_cases c : i = nx
    · subst c
      rw [T.get_set_same] at hi; cases hi
      exact ⟨l, Sg.ext_same _ _ _, ho⟩
    · have hi' := old i o' c hi
      obtain ⟨li, h1, h2⟩ := h.dom i o' hi'
      exact ⟨li, hle _ _ h1, h2.congr hle (RowKit.Below.heap_alloc _ _ _ h2.lt)⟩
  · by_cases ci : i = nx <;> by_cases cj : j = nx
    · omega
    · subst ci
      rw [Sg.ext_same] at hli; cases hli
      have hj' := old j oj cj hj
      have := ltOld j oj lj hj' (oldLoc j oj lj hj' hlj)
      omega
    · subst cj
      rw [Sg.ext_same] at hlj; cases hlj
      have hi' := old i oi ci hi
      have := ltOld i oi li hi' (oldLoc i oi li hi' hli)
      omega
    · have hi' := old i oi ci hi
      have hj' := old j oj cj hj
      exact h.inj i j oi oj li lj hi' hj' (oldLoc i oi li hi' hli) (oldLoc j oj lj hj' hlj) e
  · by_cases c : i = nx
    · subst c
      rw [Sg.ext_same] at hli; cases hli
      rw [hl]; exact h.below.size
    · have hi' := old i o' c hi
      exact h.own i o' li hi' (oldLoc i o' li hi' hli) hro
  · exact h.below.alloc h.below.size _

/-- worlds that differ in one block of the run's own at most -/
structure Touch (b : Nat) (w w' : World) : Prop where
  os : w'.os = w.os
  tape : w'.tape = w.tape
  output : w'.output = w.output
  size : w'.heap.size = w.heap.size
  block : ∀ k, k ≠ b → w'.heap[k]? = w.heap[k]?
theorem Touch.refl (b : Nat) (w : World) : Touch b w w := ⟨rfl, rfl, rfl, rfl, fun _ _ => rfl⟩
theorem Touch.trans {b : Nat} {x y z : World} (h : Touch b x y) (k : Touch b y z) : Touch b x z :=
  ⟨k.os.trans h.os, k.tape.trans h.tape, k.output.trans h.output, k.size.trans h.size, fun i hi => (k.block i hi).trans (h.block i hi)⟩
theorem Touch.below {b n : Nat} {x y z : World} (h : Touch b y z) (k : RowKit.Below n x y) (hn : n ≤ b) : RowKit.Below n x z :=
  k.trans ⟨h.os, h.tape, h.output, by rw [h.size]; exact Nat.le_refl _, fun i hi => h.block i (by omega)⟩

/-- an object is changed -/
theorem Rel.change (h : Rel P w0 σ nx H w) {i : Nat} {o o' : AObj} {l : Loc} {w' : World} (hi : H.get i = some o) (hl : σ i = some l)
    (hro : ∀ cs e, o ≠ .cells cs e .ro) (ht : Touch l.blk w w') (ho : OR P σ w' l o') : Rel P w0 σ nx (H.set i (some o')) w' := by
  have hb : w0.heap.size ≤ l.blk := h.own i o l hi hl hro
  refine ⟨h.fresh, fun j oj hj => ?_, fun a b oa ob la lb ha hb' hla hlb e => ?_, fun j oj lj hj hlj hr => ?_, ht.below h.below hb⟩
  · by_cases c : j = i
    · subst c
      rw [T.get_set_same] at hj; cases hj
      exact ⟨l, hl, ho⟩
    · rw [T.get_set_other _ _ c] at hj
      obtain ⟨lj, h1, h2⟩ := h.dom j oj hj
      refine ⟨lj, h1, h2.congr (Sg.le_refl _) (ht.block _ ?_)⟩
      intro e
      exact c (h.inj j i oj o lj l hj hi h1 hl e)
  · have g : ∀ x ox, (H.set i (some o')).get x = some ox → ∃ oy, H.get x = some oy := fun x ox hx => by
      by_cases c : x = i
      · subst c; exact ⟨o, hi⟩
      · rw [T.get_set_other _ _ c] at hx; exact ⟨ox, hx⟩
    obtain ⟨oa', ha'⟩ := g a oa ha
    obtain ⟨ob', hb''⟩ := g b ob hb'
    exact h.inj a b oa' ob' la lb ha' hb'' hla hlb e
  · by_cases c : j = i
    · subst c
      rw [hl] at hlj; cases hlj; exact hb
    · rw [T.get_set_other _ _ c] at hj
      exact h.own j oj lj hj hlj hr

/-- an object is let go -/
theorem Rel.drop (h : Rel P w0 σ nx H w) (i : Nat) : Rel P w0 σ nx (H.set i none) w := by
  have g : ∀ x ox, (H.set i none).get x = some ox → H.get x = some ox := fun x ox hx => by
    by_cases c : x = i
    · subst c; rw [T.get_set_same] at hx; cases hx
    · rwa [T.get_set_other _ _ c] at hx
  exact ⟨h.fresh, fun j oj hj => h.dom j oj (g j oj hj), fun a b oa ob la lb ha hb => h.inj a b oa ob la lb (g a oa ha) (g b ob hb),
    fun j oj lj hj => h.own j oj lj (g j oj hj), h.below⟩

/-- an object goes on under a new name -/
theorem Rel.rename (h : Rel P w0 σ nx H w) {b : Nat} {o o' : AObj} {l l' : Loc} {w' : World} (hb : H.get b = some o) (hl : σ b = some l)
    (hro : ∀ cs e, o ≠ .cells cs e .ro) (hl' : l'.blk = l.blk) (ht : Touch l.blk w w') (ho : OR P (σ.ext nx l') w' l' o') :
    Rel P w0 (σ.ext nx l') (nx + 1) ((H.set b none).set nx (some o')) w' := by
  have hf : σ nx = none := h.fresh nx (Nat.le_refl _)
  have hle : σ.le (σ.ext nx l') := Sg.le_ext hf
  have hown : w0.heap.size ≤ l.blk := h.own b o l hb hl hro
  have old : ∀ i oi, i ≠ nx → ((H.set b none).set nx (some o')).get i = some oi → i ≠ b ∧ H.get i = some oi := fun i oi hne hi => by
    rw [T.get_set_other _ _ hne] at hi
    by_cases c : i = b
    · subst c; rw [T.get_set_same] at hi; cases hi
    · rw [T.get_set_other _ _ c] at hi; exact ⟨c, hi⟩
  have oldLoc : ∀ i oi li, H.get i = some oi → (σ.ext nx l') i = some li → σ i = some li := fun i oi li hi hli => by
    rwa [Sg.ext_other _ _ (Nat.ne_of_lt (h.lt_nx hi))] at hli
  refine ⟨fun i hi => ?_, fun i oi hi => ?_, fun i j oi oj li lj hi hj hli hlj e => ?_, fun i oi li hi hli hr => ?_, ht.below h.below hown⟩
  · rw [Sg.ext_other _ _ (by omega)]; exact h.fresh i (by omega)
  · by_cases c : i = nx
    · subst c
      rw [T.get_set_same] at hi; cases hi
      exact ⟨l', Sg.ext_same _ _ _, ho⟩
    · obtain ⟨cb, hi'⟩ := old i oi c hi
      obtain ⟨li, h1, h2⟩ := h.dom i oi hi'
      exact ⟨li, hle _ _ h1, h2.congr hle (ht.block _ fun e => cb (h.inj i b oi o li l hi' hb h1 hl e))⟩
  · by_cases ci : i = nx <;> by_cases cj : j = nx
    · omega
    · subst ci
      rw [Sg.ext_same] at hli; cases hli
      obtain ⟨cb, hj'⟩ := old j oj cj hj
      exact absurd (h.inj j b oj o lj l hj' hb (oldLoc j oj lj hj' hlj) hl (by omega)) cb
    · subst cj
      rw [Sg.ext_same] at hlj; cases hlj
      obtain ⟨cb, hi'⟩ := old i oi ci hi
      exact absurd (h.inj i b oi o li l hi' hb (oldLoc i oi li hi' hli) hl (by omega)) cb
    · obtain ⟨_, hi'⟩ := old i oi ci hi
      obtain ⟨_, hj'⟩ := old j oj cj hj
      exact h.inj i j oi oj li lj hi' hj' (oldLoc i oi li hi' hli) (oldLoc j oj lj hj' hlj) e
  · by_cases c : i = nx
    · subst c
      rw [Sg.ext_same] at hli; cases hli; omega
    · obtain ⟨_, hi'⟩ := old i oi c hi
      exact h.own i oi li hi' (oldLoc i oi li hi' hli) hr
end

/-- a row of the run's own may be taken for one that is marked -/
theorem own_str {P : Program} {w0 : World} {τ : Sg} {m i : Nat} {H : Heap} {cs : List AV} {e : TypeId} {w : World} (h : Rel P w0 τ m (H.set i (some (.cells cs e .own))) w) :
    Rel P w0 τ m (H.set i (some (.cells cs e .str))) w := by
  obtain ⟨l, h1, h2⟩ := h.dom i _ (T.get_set_same _ _ _)
  have := h.change (i := i) (o' := .cells cs e .str) (w' := w) (T.get_set_same _ _ _) h1 (by simp) (Touch.refl _ _) (by
    simp only [OR] at h2 ⊢
    obtain ⟨xs, fz, g1, g2, g3, g4, g5, g6, g7⟩ := h2
    exact ⟨xs, fz, g1, g2, g3, g4, g5, by simp only [ckR] at g6; subst g6; exact .inl rfl, g7⟩)
  rwa [set_set] at this

/-! ### Cells -/
theorem cell_at {w : World} {b : Nat} {xs : Array Value} {e : TypeId} {fz : Nat × Nat} (h : w.heap[b]? = some (.cells xs e fz)) (o : Nat) :
    w.cell? ⟨b, o, none⟩ = xs[o]? := by simp [World.cell?, h]
theorem frozen_at {w : World} {b : Nat} {xs : Array Value} {e : TypeId} {fz : Nat × Nat} (h : w.heap[b]? = some (.cells xs e fz)) (o : Nat) :
    w.frozen? ⟨b, o, none⟩ = (decide (fz.1 ≤ o) && decide (o < fz.2)) := by
  obtain ⟨lo, hi⟩ := fz
  simp [World.frozen?, h]
theorem add_at (b o n : Nat) : (⟨b, o, none⟩ : Addr).add n = ⟨b, o + n, none⟩ := by
  unfold Addr.add; split
  · subst_vars; rfl
  · rfl

theorem setCell_touch (w : World) (b o : Nat) (v : Value) : Touch b w (w.setCell ⟨b, o, none⟩ v) :=
  ⟨rfl, rfl, rfl, by simp [World.setCell], fun k hk => by simp only [World.setCell, Array.getElem?_modify]; rw [if_neg (by omega)]⟩
theorem setCell_row {w : World} {b : Nat} {xs : Array Value} {e : TypeId} {fz : Nat × Nat} (h : w.heap[b]? = some (.cells xs e fz)) (o : Nat) (v : Value) :
    (w.setCell ⟨b, o, none⟩ v).heap[b]? = some (.cells (xs.setIfInBounds o v) e fz) := by
  simp only [World.setCell, Array.getElem?_modify, h]
  simp

theorem run_storeCells (P : Program) (b off : Nat) (e : TypeId) (fz : Nat × Nat) : ∀ (vs : List Value) (i : Nat) (w : World) (xs : Array Value),
    w.heap[b]? = some (.cells xs e fz) → (∀ v ∈ vs, v.oneCell' = true) → off + i + vs.length ≤ xs.size →
    (∀ k, off + i ≤ k → k < off + i + vs.length → (decide (fz.1 ≤ k) && decide (k < fz.2)) = false) →
    ∃ w' xs', (storeCells ⟨b, off, none⟩ vs i).run P w = .ok () w' ∧ Touch b w w' ∧ w'.heap[b]? = some (.cells xs' e fz) ∧ xs'.size = xs.size ∧
      ∀ k, xs'[k]? = if off + i ≤ k ∧ k < off + i + vs.length then vs[k - (off + i)]? else xs[k]?
  | [], i, w, xs, hb, _, _, _ => ⟨w, xs, rfl, Touch.refl _ _, hb, rfl, fun k => by rw [if_neg (by simp only [List.length_nil]; omega)]⟩
  | v :: vs, i, w, xs, hb, h1, hsz, hfz => by
    have hlt : off + i < xs.size := by simp at hsz; omega
    have hc : w.cell? ⟨b, off + i, none⟩ = some xs[off + i] := by rw [cell_at hb]; simp [hlt]
    have hf : w.frozen? ⟨b, off + i, none⟩ = false := by rw [frozen_at hb]; exact hfz _ (Nat.le_refl _) (by simp)
    obtain ⟨w', xs', hr, ht, hb', hs', hg⟩ := run_storeCells P b off e fz vs (i + 1) (w.setCell ⟨b, off + i, none⟩ v) (xs.setIfInBounds (off + i) v)
      (setCell_row hb _ _) (fun u hu => h1 u (by simp [hu])) (by simp at hsz ⊢; omega) (fun k a1 a2 => hfz k (by omega) (by simp at a2 ⊢; omega))
    refine ⟨w', xs', ?_, (setCell_touch _ _ _ _).trans ht, hb', by rw [hs']; simp, fun k => ?_⟩
    · simp only [storeCells, Sem.run_bind, add_at]
      rw [run_store P w _ v _ (h1 v (by simp)), hc]
      simp only [hf, Bool.false_eq_true, if_false, Result.andThen_ok]
      exact hr
    · rw [hg k]
      by_cases c : off + i + 1 ≤ k ∧ k < off + i + 1 + vs.length
      · rw [if_pos (by omega), if_pos (by simp; omega)]
        have : k - (off + i) = (k - (off + (i + 1))) + 1 := by omega
        rw [this]; simp
      · rw [if_neg (by omega)]
        by_cases c2 : k = off + i
        · subst c2
          rw [if_pos (by simp), Array.getElem?_setIfInBounds_self_of_lt hlt]; simp
        · rw [if_neg (by simp; omega), Array.getElem?_setIfInBounds_ne (by omega)]

end Go.SK

/- One operation: what the evaluator says is what the model does. First part: operands, types, memory. -/
namespace Go.SK
open Go

def OpdOn (σ : Sg) (E : Env) (ρ : Operand → Value) (xs : List Operand) : Prop := ∀ x ∈ xs, ∀ a, ev E x = some a → VR σ a (ρ x)

theorem VR.undef (σ : Sg) : VR σ SK.undef Go.undef := by simp [SK.undef, Go.undef, VR, VRs]

theorem ofValue_VR (σ : Sg) : ∀ {v : Value} {a : AV}, ofValue v = some a → VR σ a v ∧ sc a := by
  intro v a h
  unfold ofValue at h
  split at h <;> first
    | (cases h; exact ⟨by simp [VR], trivial⟩)
    | cases h

theorem ofValues_VR (σ : Sg) : ∀ {vs : List Value} {as : List AV}, ofValues vs = some as → VRs σ as vs ∧ ∀ a ∈ as, sc a
  | [], as, h => by simp [ofValues] at h; subst h; simp [VRs]
  | v :: vs, as, h => by
    simp only [ofValues] at h
    split at h
    · cases h
    · rename_i a ha
      split at h
      · cases h
      · rename_i bs hbs
        cases h
        obtain ⟨h1, h2⟩ := ofValue_VR σ ha
        obtain ⟨h3, h4⟩ := ofValues_VR σ hbs
        exact ⟨by simp only [VRs]; exact ⟨v, vs, rfl, h1, h3⟩, by simpa using ⟨h2, h4⟩⟩

theorem ofZero_VR (σ : Sg) {v : Value} {a : AV} (h : ofZero v = some a) : VR σ a v := by
  unfold ofZero at h
  split at h
  · split at h
    · rename_i l hl
      cases h
      obtain ⟨h1, h2⟩ := ofValues_VR σ hl
      simp only [VR]; exact ⟨_, rfl, h1, h2⟩
    · cases h
  · split at h
    · next hcs =>
      cases h
      simp only [VR, VRs]; exact ⟨_, rfl, hcs⟩
    · cases h
  · exact (ofValue_VR σ h).1

/-- the operands of an activation -/
theorem OpdOn.of_env {σ : Sg} {E : Env} {a : Act} (h : EnvR σ E a.tmps) (xs : List Operand) : OpdOn σ E a.eval xs := by
  intro x _ b hb
  cases x with
  | tmp t =>
    obtain ⟨v, h1, h2⟩ := h t b hb
    simp only [Act.eval]
    rw [Array.getD_eq_getD_getElem?, h1]; exact h2
  | const v => exact ofZero_VR σ hb
  | global g => simp [ev, cev] at hb; subst hb; simp [VR, Act.eval]
  | func f => simp [ev, cev] at hb; subst hb; simp only [VR, VRs, FR, Act.eval]; exact ⟨_, #[], #[], rfl, rfl, rfl, rfl⟩

section types
variable {P : Program} {w : World} {t : TypeId}
theorem run_und {d : TypeDesc} (h : P.underlying t = some d) : (underlying t).run P w = .ok d w := by simp [underlying, h]
theorem run_size {n : Nat} (h : sizeT P t = some n) : (sizeOf t).run P w = .ok n w := by
  unfold sizeT at h
  cases e : P.info? t with
  | none => simp [e] at h
  | some i => simp [e] at h; simp [sizeOf, typeInfo, e, h]
theorem run_bytes {n : Nat} (h : bytesT P t = some n) : ∃ i, P.info? t = some i ∧ i.bytes = n := by
  unfold bytesT at h
  cases e : P.info? t with
  | none => simp [e] at h
  | some i => simp [e] at h; exact ⟨i, rfl, h⟩
theorem zeroT_VR (σ : Sg) {z : AV} (h : zeroT P t = some z) : ∃ i v, P.info? t = some i ∧ i.zero = some v ∧ VR σ z v := by
  unfold zeroT at h
  split at h
  · rename_i i hi
    split at h
    · rename_i v hv
      exact ⟨i, v, hi, hv, ofZero_VR σ h⟩
    · cases h
  · cases h
theorem zeroC_VR (σ : Sg) {z : List AV} (h : zeroC P t = some z) : ∃ i v, P.info? t = some i ∧ i.zero = some v ∧ VRs σ z v.cells.toList ∧ ∀ a ∈ z, sc a := by
  unfold zeroC at h
  split at h
  · rename_i i hi
    split at h
    · rename_i v hv
      split at h
      · rename_i a ha
        obtain ⟨h1, h2⟩ := (ofZero_VR σ ha).cells h
        exact ⟨i, v, hi, hv, h1, h2⟩
      · cases h
    · cases h
  · cases h
theorem run_zero {i : TypeInfo} {v : Value} (h : P.info? t = some i) (h2 : i.zero = some v) : (zeroValue t).run P w = .ok v w := by
  simp [zeroValue, typeInfo, h, h2]
theorem run_isAgg {b : Bool} (h : isAggT P t = some b) : (isAgg t).run P w = .ok b w := by
  unfold isAggT at h
  cases e : P.underlying t with
  | none => simp [e] at h
  | some d =>
    simp only [isAgg, Sem.run_bind, run_und e, Result.andThen_ok]
    rw [e] at h
    cases d <;> simp at h <;> subst h <;> rfl
end types

/-! ### Reading -/
theorem OR.cell {P : Program} {σ : Sg} {w : World} {l : Loc} {cs : List AV} {e : TypeId} {k : CK} (h : OR P σ w l (.cells cs e k)) {o : Nat} {a : AV} (ha : cs[o]? = some a) :
    ∃ v, w.cell? (l.at o) = some v ∧ VR σ a v := by
  simp only [OR] at h
  obtain ⟨xs, fz, h1, h2, h3, h4, h5⟩ := h
  obtain ⟨v, a1, a2⟩ := h4 o a ha
  exact ⟨v, by rw [Loc.at, cell_at h1]; exact a1, a2⟩

/-- n cells from o on -/
theorem OR.row' {P : Program} {σ : Sg} {w : World} {l : Loc} {cs : List AV} {e : TypeId} {k : CK} (h : OR P σ w l (.cells cs e k)) {o n : Nat} {r : List AV} (hr : part cs o n = some r) :
    ∃ vs : List Value, (∀ w' : World, (∀ k : Nat, w'.heap[k]? = w.heap[k]?) → (loadCells (l.at o) n).run P w' = .ok vs.toArray w') ∧ VRs σ r vs ∧ (∀ a ∈ r, sc a) ∧ r.length = n := by
  obtain ⟨h1, rfl⟩ := part_eq hr
  simp only [OR] at h
  obtain ⟨xs, fz, g1, g2, g3, g4, g5, g6, g7⟩ := h
  have hlen : ((cs.drop o).take n).length = n := by simp; omega
  refine ⟨(xs.toList.drop (l.off + o)).take n, fun w' hw' => ?_, ?_, fun a ha => g5 a (List.mem_of_mem_drop (List.mem_of_mem_take ha)), hlen⟩
  · have g1' : w'.heap[l.blk]? = some (.cells xs e fz) := (hw' _).trans g1
    have := run_loadCells_list (P := P) (w := w') (l.at o) ((xs.toList.drop (l.off + o)).take n) (fun j v hj => by
      rw [Loc.at, add_at, cell_at g1']
      rw [List.getElem?_take] at hj
      split at hj
      · rw [List.getElem?_drop, Array.getElem?_toList] at hj
        exact hj
      · cases hj)
    have hl2 : ((xs.toList.drop (l.off + o)).take n).length = n := by simp; omega
    rw [hl2] at this
    exact this
  · refine VRs.of_get (by simp; omega) fun i a hi => ?_
    rw [List.getElem?_take] at hi ⊢
    split at hi
    · rename_i hlt
      rw [if_pos hlt]
      rw [List.getElem?_drop] at hi
      obtain ⟨v, a1, a2⟩ := g4 _ a hi
      refine ⟨v, ?_, a2⟩
      rw [List.getElem?_drop, Array.getElem?_toList, ← a1]; congr 1; omega
    · cases hi
theorem OR.row {P : Program} {σ : Sg} {w : World} {l : Loc} {cs : List AV} {e : TypeId} {k : CK} (h : OR P σ w l (.cells cs e k)) {o n : Nat} {r : List AV} (hr : part cs o n = some r) :
    ∃ vs : List Value, (loadCells (l.at o) n).run P w = .ok vs.toArray w ∧ VRs σ r vs ∧ (∀ a ∈ r, sc a) ∧ r.length = n :=
  let ⟨vs, h1, h2⟩ := h.row' hr; ⟨vs, h1 w (fun _ => rfl), h2⟩

theorem getCells_get {H : Heap} {b : Nat} {cs : List AV} (h : getCells H b = some cs) : ∃ e k, H.get b = some (.cells cs e k) := by
  unfold getCells at h
  split at h
  · rename_i e k hh; cases h; exact ⟨e, k, hh⟩
  · cases h

section ops
variable {P : Program} {w0 : World} {σ : Sg} {nx : Nat} {H : Heap} {w : World} {E : Env} {ρ : Operand → Value} {o : Oper}

def ValR (P : Program) (w0 : World) (σ : Sg) (v : AV) (H' : Heap) (nx' : Nat) (r : Result Next) : Prop :=
  ∃ τ v' w' n, Sg.le σ τ ∧ r = .ok n w' ∧ (n = .value v' ∨ (n = .skip ∧ v' = Go.undef)) ∧ VR τ v v' ∧ Rel P w0 τ nx' H' w'

theorem ValR.same (hR : Rel P w0 σ nx H w) {v : AV} {v' : Value} {r : Result Next} (hr : r = .ok (.value v') w) (hv : VR σ v v') : ValR P w0 σ v H nx r :=
  ⟨σ, v', w, _, Sg.le_refl _, hr, .inl rfl, hv, hR⟩

/-- what an operation comes to -/
def OpOk (P : Program) (w0 : World) (σ : Sg) (H : Heap) (nx : Nat) (w : World) (r : OpR) (x : Sem Next) : Prop :=
  match r with
  | .val v H' nx' => ValR P w0 σ v H' nx' (x.run P w)
  | .call f args H' nx' => H' = H ∧ nx' = nx ∧ ∃ as : List Value, x.run P w = (callFunc f as.toArray).run P w ∧ VRs σ args as
  | .yield i args H' nx' => H' = H ∧ nx' = nx ∧ ∃ (l : Loc) (as : List Value), σ i = some l ∧ x.run P w = (Instr.yield l.blk as.toArray).run P w ∧ VRs σ args as

theorem opMove_ok (hR : Rel P w0 σ nx H w) {x : Operand} (hE : OpdOn σ E ρ [x]) {r : OpR} (h : opMove E H nx x = some r) {s : Sem Next} (hs : s.run P w = .ok (.value (ρ x)) w) :
    OpOk P w0 σ H nx w r s := by
  unfold opMove at h
  split at h
  · rename_i v hv
    cases h
    exact ValR.same hR hs (hE x (by simp) v hv)
  · cases h

theorem opPick_ok (hR : Rel P w0 σ nx H w) {c a b : Operand} (hE : OpdOn σ E ρ [c, a, b]) {r : OpR} (h : opPick E H nx c a b = some r) (ho : o.op = .pick c a b) :
    OpOk P w0 σ H nx w r (execOp ρ o) := by
  unfold opPick at h
  split at h
  · rename_i hc
    have := hE c (by simp) _ hc
    simp only [VR] at this
    exact opMove_ok hR (fun y hy => by simp at hy; subst hy; exact hE y (by simp)) h (by simp [execOp, ho, this, asBool])
  · rename_i hc
    have := hE c (by simp) _ hc
    simp only [VR] at this
    exact opMove_ok hR (fun y hy => by simp at hy; subst hy; exact hE y (by simp)) h (by simp [execOp, ho, this, asBool])
  · cases h

theorem heap_new (w : World) (ob : Obj) : (w.alloc ob).heap[w.heap.size]? = some ob := by
  show (w.heap.push ob)[w.heap.size]? = _
  simp

/-- a new row -/
theorem newB_ok (hR : Rel P w0 σ nx H w) {cs : List AV} {vs : List Value} {e : TypeId} {n : Nat} (hcs : VRs σ cs vs) (hsc : ∀ a ∈ cs, sc a) (he : sizeT P e = some n) :
    ∃ l : Loc, l.blk = w.heap.size ∧ l.off = 0 ∧ l.size = cs.length ∧ l.esz = n ∧ Rel P w0 (σ.ext nx l) (nx + 1) (H.set nx (some (.cells cs e .own))) (w.alloc (.cells vs.toArray e)) := by
  refine ⟨⟨w.heap.size, 0, cs.length, n⟩, rfl, rfl, rfl, rfl, hR.alloc _ _ _ rfl ?_⟩
  simp only [OR]
  refine ⟨vs.toArray, (0, 0), ?_, by simp [hcs.len], by simp [hcs.len], fun i a hi => ?_, hsc, rfl, he⟩
  · exact heap_new w _
  · obtain ⟨v, h1, h2⟩ := hcs.get i a hi
    exact ⟨v, by simpa using h1, h2.mono (Sg.le_ext (hR.fresh nx (Nat.le_refl _)))⟩

end ops
end Go.SK

/- One operation, second part: rows, structs, loads, stores. -/
namespace Go.SK
open Go

theorem foldl_put (off : Nat) : ∀ (l : List Value) (j : Nat) (cells : Array Value), off + j + l.length ≤ cells.size →
    ((l.zipIdx j).foldl (fun cs (p : Value × Nat) => cs.setIfInBounds (off + p.2) p.1) cells).size = cells.size ∧
    ∀ k : Nat, ((l.zipIdx j).foldl (fun cs (p : Value × Nat) => cs.setIfInBounds (off + p.2) p.1) cells)[k]? = if off + j ≤ k ∧ k < off + j + l.length then l[k - (off + j)]? else cells[k]?
  | [], j, cells, _ => by simp only [List.zipIdx_nil, List.foldl_nil, List.length_nil]; exact ⟨trivial, fun k => by rw [if_neg (by omega)]⟩
  | v :: l, j, cells, h => by
    simp only [List.zipIdx_cons, List.foldl_cons]
    obtain ⟨h1, h2⟩ := foldl_put off l (j + 1) (cells.setIfInBounds (off + j) v) (by simp at h ⊢; omega)
    refine ⟨by rw [h1]; simp, fun k => ?_⟩
    rw [h2 k]
    by_cases c : off + j + 1 ≤ k ∧ k < off + j + 1 + l.length
    · rw [if_pos (by omega), if_pos (by simp; omega)]
      have : k - (off + j) = (k - (off + (j + 1))) + 1 := by omega
      rw [this]; simp
    · rw [if_neg (by omega)]
      by_cases c2 : k = off + j
      · subst c2
        rw [if_pos (by simp), Array.getElem?_setIfInBounds_self_of_lt (by simp at h; omega)]; simp
      · rw [if_neg (by simp; omega), Array.getElem?_setIfInBounds_ne (by omega)]

section ops
variable {P : Program} {w0 : World} {σ : Sg} {nx : Nat} {H : Heap} {w : World} {E : Env} {ρ : Operand → Value} {o : Oper}

theorem fillP_ok {place place' : Nat → Option (Nat × Nat)} (hp : ∀ i a, place i = some a → place' i = some a) : ∀ (ps : List (Nat × Operand)) (cs cs' : List AV) (cells : Array Value),
    OpdOn σ E ρ (ps.map (·.2)) → VRs σ cs cells.toList → (∀ a ∈ cs, sc a) → fillP place E ps cs = some cs' →
    ∃ cells', Instr.fill place' cells (ps.map fun p => (p.1, ρ p.2)) = some cells' ∧ VRs σ cs' cells'.toList ∧ (∀ a ∈ cs', sc a) ∧ cs'.length = cs.length
  | [], cs, cs', cells, _, hv, hs, h => by
    simp [fillP] at h; subst h; exact ⟨cells, rfl, hv, hs, rfl⟩
  | (i, x) :: ps, cs, cs', cells, hE, hv, hs, h => by
    simp only [fillP] at h
    split at h
    · rename_i off size v hpl hx
      split at h
      · rename_i vs hvs
        split at h
        · rename_i hlen
          split at h
          · rename_i cs1 hcs1
            have hx' := hE x (by simp) v hx
            obtain ⟨c1, c2⟩ := hx'.cells hvs
            obtain ⟨s1, s2, s3⟩ := splice_eq _ _ _ _ hcs1
            have hl : vs.length = size := by rw [len_eq] at hlen; exact Nat.eq_of_beq_eq_true hlen
            have hcl : (ρ x).cells.size = vs.length := by have := c1.len; simpa using this
            have hcells : cells.size = cs.length := by have := hv.len; simpa using this
            have hfold := foldl_put off (ρ x).cells.toList 0 cells (by simp; omega)
            let cells1 := (ρ x).cells.zipIdx.foldl (fun cs (p : Value × Nat) => cs.setIfInBounds (off + p.2) p.1) cells
            have e1 : cells1 = ((ρ x).cells.toList.zipIdx 0).foldl (fun cs (p : Value × Nat) => cs.setIfInBounds (off + p.2) p.1) cells := by
              show (ρ x).cells.zipIdx.foldl _ cells = _
              rw [← Array.foldl_toList, Array.toList_zipIdx]
            have hv1 : VRs σ cs1 cells1.toList := VRs.of_get (by rw [Array.length_toList, e1, hfold.1, s2, hcells]) fun k a hk => by
              rw [s3 k] at hk
              rw [Array.getElem?_toList, e1, hfold.2 k]
              split at hk
              · rename_i c
                rw [if_pos (by simp; omega)]
                obtain ⟨u, u1, u2⟩ := c1.get _ a hk
                exact ⟨u, by simpa using u1, u2⟩
              · rename_i c
                rw [if_neg (by simp; omega)]
                obtain ⟨u, u1, u2⟩ := hv.get _ a hk
                exact ⟨u, by simpa using u1, u2⟩
            have hs1 : ∀ a ∈ cs1, sc a := fun a ha => by
              obtain ⟨k, hk⟩ := List.getElem?_of_mem ha
              rw [s3 k] at hk
              split at hk
              · exact c2 a (List.mem_of_getElem? hk)
              · exact hs a (List.mem_of_getElem? hk)
            obtain ⟨cells', f1, f2, f3, f4⟩ := fillP_ok hp ps cs1 cs' cells1 (fun y hy => hE y (by simp at hy ⊢; exact .inr hy)) hv1 hs1 h
            refine ⟨cells', ?_, f2, f3, by rw [f4, s2]⟩
            simp only [List.map_cons, Instr.fill, hp _ _ hpl]
            rw [if_neg]
            · exact f1
            · simp; omega
          · cases h
        · cases h
      · cases h
    · cases h

theorem opAlloc_ok (hR : Rel P w0 σ nx H w) {t : TypeId} {r : OpR} (h : opAlloc P H nx t = some r) (ho : o.op = .alloc t) : OpOk P w0 σ H nx w r (execOp ρ o) := by
  unfold opAlloc at h
  split at h
  · rename_i z hz
    cases h
    obtain ⟨i, v, h1, h2, h3, h4⟩ := zeroC_VR σ hz
    obtain ⟨l, a1, a2, a3, a4, a5⟩ := newB_ok (e := t) (n := i.size) hR h3 h4 (by simp [sizeT, h1])
    refine ⟨σ.ext nx l, .pointer (some ⟨w.heap.size, 0, none⟩), _, _, Sg.le_ext (hR.fresh nx (Nat.le_refl _)), ?_, .inl rfl, ?_, a5⟩
    · simp [execOp, ho, Instr.alloc, run_zero h1 h2, newVar, newRow]
    · simp only [VR]; exact ⟨l, Sg.ext_same _ _ _, by simp [Loc.at, a1, a2]⟩
  · cases h

theorem opBox_ok (hR : Rel P w0 σ nx H w) {t : TypeId} {x : Operand} (hE : OpdOn σ E ρ [x]) {r : OpR} (h : opBox P E H nx t x = some r) (ho : o.op = .box t x) : OpOk P w0 σ H nx w r (execOp ρ o) := by
  unfold opBox at h
  split at h
  · rename_i v hv
    split at h
    · rename_i cs n hcs hn
      cases h
      have hx := hE x (by simp) v hv
      obtain ⟨h3, h4⟩ := hx.cells hcs
      obtain ⟨l, a1, a2, a3, a4, a5⟩ := newB_ok (e := t) (n := n) hR h3 h4 hn
      refine ⟨σ.ext nx l, .pointer (some ⟨w.heap.size, 0, none⟩), _, _, Sg.le_ext (hR.fresh nx (Nat.le_refl _)), ?_, .inl rfl, ?_, a5⟩
      · simp [execOp, ho, Instr.box, newVar, newRow]
      · simp only [VR]; exact ⟨l, Sg.ext_same _ _ _, by simp [Loc.at, a1, a2]⟩
    · cases h
  · cases h

theorem load1_ok (hR : Rel P w0 σ nx H w) {t : TypeId} {x : Operand} (hE : OpdOn σ E ρ [x]) {r : OpR} (ht : isAggT P t = some false) (h : load1 E H nx x = some r) (ho : o.op = .load t x) : OpOk P w0 σ H nx w r (execOp ρ o) := by
  unfold load1 at h
  split at h
  · rename_i b off hx
    split at h
    · rename_i cs hcs
      split at h
      · rename_i v hv
        cases h
        rw [nth_eq] at hv
        have hx' := hE x (by simp) _ hx
        simp only [VR] at hx'
        obtain ⟨l, l1, l2⟩ := hx'
        obtain ⟨e, k, hg⟩ := getCells_get hcs
        obtain ⟨l', l3, hO⟩ := hR.dom b _ hg
        rw [l1] at l3; cases l3
        obtain ⟨u, u1, u2⟩ := hO.cell hv
        refine ValR.same hR (v' := u) ?_ u2
        simp [execOp, ho, Instr.loadAt, l2, Instr.sureAddr, loadVar, run_isAgg ht, u1]
      · cases h
    · cases h
  · cases h

theorem loadN_ok (hR : Rel P w0 σ nx H w) {t : TypeId} {n : Nat} {x : Operand} (hE : OpdOn σ E ρ [x]) {r : OpR} (ht : isAggT P t = some true) (hn : sizeT P t = some n) (h : loadN n E H nx x = some r) (ho : o.op = .load t x) : OpOk P w0 σ H nx w r (execOp ρ o) := by
  unfold loadN at h
  split at h
  · rename_i b off hx
    split at h
    · rename_i cs hcs
      split at h
      · rename_i rr hv
        cases h
        have hx' := hE x (by simp) _ hx
        simp only [VR] at hx'
        obtain ⟨l, l1, l2⟩ := hx'
        obtain ⟨e, k, hg⟩ := getCells_get hcs
        obtain ⟨l', l3, hO⟩ := hR.dom b _ hg
        rw [l1] at l3; cases l3
        obtain ⟨vs, u1, u2, u3, u4⟩ := hO.row hv
        refine ValR.same hR (v' := .agg vs.toArray) ?_ ?_
        · simp [execOp, ho, Instr.loadAt, l2, Instr.sureAddr, loadVar, run_isAgg ht, run_size hn, u1]
        · simp only [VR]; exact ⟨_, rfl, by simpa using u2, u3⟩
      · cases h
    · cases h
  · cases h

/-- what is stored is there -/
theorem storeCs_ok (hR : Rel P w0 σ nx H w) {b off : Nat} {vs : List AV} {us : List Value} {H' : Heap} {l : Loc} (hl : σ b = some l) (h : storeCs H b off vs = some H')
    (hv : VRs σ vs us) (hs : ∀ a ∈ vs, sc a) : ∃ w', (storeCells (l.at off) us 0).run P w = .ok () w' ∧ Rel P w0 σ nx H' w' := by
  unfold storeCs at h
  split at h
  · rename_i cs e k hg
    have key : k ≠ .ro ∧ ∃ cs', splice off vs cs = some cs' ∧ H' = H.set b (some (.cells cs' e k)) := by
      cases k <;> simp at h <;> (split at h <;> first | (rename_i cs' hcs'; cases h; exact ⟨by simp, cs', hcs', rfl⟩) | cases h)
    obtain ⟨hk, cs', hsp, rfl⟩ := key
    obtain ⟨l', l1, hO⟩ := hR.dom b _ hg
    rw [hl] at l1; cases l1
    have hO' := hO
    simp only [OR] at hO
    obtain ⟨xs, fz, g1, g2, g3, g4, g5, g6, g7⟩ := hO
    obtain ⟨s1, s2, s3⟩ := splice_eq _ _ _ _ hsp
    have hul := hv.len
    have hfree : ∀ j, j < xs.size → (decide (fz.1 ≤ j) && decide (j < fz.2)) = false := by
      cases k with
      | own => simp only [ckR] at g6; subst g6; intro j _; simp
      | str => exact fun j hj => Calm.free g6 j hj
      | ro => exact absurd rfl hk
    obtain ⟨w', xs', r1, r2, r3, r4, r5⟩ := run_storeCells P l.blk (l.off + off) e fz us 0 w xs g1 (fun v hv' => by
        obtain ⟨j, hj⟩ := List.getElem?_of_mem hv'
        have hj2 : j < us.length := (List.getElem?_eq_some_iff.1 hj).1
        obtain ⟨u, u1, u2⟩ := hv.get j (vs[j]'(by omega)) (by simp [List.getElem?_eq_getElem (show j < vs.length by omega)])
        rw [hj] at u1; cases u1
        exact u2.one (hs _ (List.getElem_mem _)))
      (by omega) (fun j _ j2 => hfree j (by omega))
    refine ⟨w', r1, hR.change hg hl (fun c e' => by simp only [ne_eq, AObj.cells.injEq, not_and]; intro _ _; exact hk) r2 ?_⟩
    simp only [OR]
    refine ⟨xs', fz, r3, by omega, by omega, fun i a hi => ?_, fun a ha => ?_, ?_, g7⟩
    · rw [s3 i] at hi
      rw [r5]
      split at hi
      · rw [if_pos (by omega)]
        obtain ⟨u, u1, u2⟩ := hv.get _ a hi
        refine ⟨u, ?_, u2⟩
        rw [← u1]; congr 1; omega
      · rw [if_neg (by omega)]
        exact g4 i a hi
    · obtain ⟨j, hj⟩ := List.getElem?_of_mem ha
      rw [s3 j] at hj
      split at hj
      · exact hs a (List.mem_of_getElem? hj)
      · exact g5 a (List.mem_of_getElem? hj)
    · cases k with
      | own => exact g6
      | str => simp only [ckR, Calm] at g6 ⊢; rw [r4]; exact g6
      | ro => trivial
  · cases h

theorem opStore_ok (hR : Rel P w0 σ nx H w) {t : TypeId} {x y : Operand} (hE : OpdOn σ E ρ [x, y]) {r : OpR} (h : opStore P E H nx t x y = some r) (ho : o.op = .store t x y) : OpOk P w0 σ H nx w r (execOp ρ o) := by
  unfold opStore at h
  split at h
  · rename_i a v ha hv
    split at h
    · rename_i H' hH
      cases h
      unfold storeA at hH
      split at hH
      · rename_i b off
        split at hH
        · rename_i n hn
          split at hH
          · rename_i cs hcs
            split at hH
            · rename_i hlen
              have hx' := hE x (by simp) _ ha
              simp only [VR] at hx'
              obtain ⟨l, l1, l2⟩ := hx'
              obtain ⟨c1, c2⟩ := (hE y (by simp) _ hv).cells hcs
              obtain ⟨w', s1, s2⟩ := storeCs_ok hR l1 hH c1 c2
              refine ⟨σ, Go.undef, w', _, Sg.le_refl _, ?_, .inr ⟨rfl, rfl⟩, VR.undef _, s2⟩
              have hsz : (ρ y).cells.size = n := by
                have h1 := c1.len
                have h2 := Nat.eq_of_beq_eq_true hlen
                rw [len_eq] at h2
                simp at h1; omega
              simp only [execOp, ho, Instr.storeAt, l2, Instr.sureAddr, Sem.run_bind, Sem.run_pure, Result.andThen_ok, storeVar, run_size hn, hsz, ne_eq, not_true_eq_false, if_false, pure_bind]
              rw [s1]; rfl
            · cases hH
          · cases hH
        · cases hH
      · cases hH
    · cases h
  · cases h

end ops
end Go.SK

/- One operation, third part: addresses, structs, new slices and maps. -/
namespace Go.SK
open Go

section ops
variable {P : Program} {w0 : World} {σ : Sg} {nx : Nat} {H : Heap} {w : World} {E : Env} {ρ : Operand → Value} {o : Oper}

theorem opNil_ok (hR : Rel P w0 σ nx H w) {x : Operand} (hE : OpdOn σ E ρ [x]) {r : OpR} (h : opNil E H nx x = some r) (ho : o.op = .nilCheck x) : OpOk P w0 σ H nx w r (execOp ρ o) := by
  unfold opNil at h
  split at h
  · rename_i b off hx
    cases h
    have hx' := hE x (by simp) _ hx
    have hx2 := hx'
    simp only [VR] at hx2
    obtain ⟨l, l1, l2⟩ := hx2
    exact ValR.same hR (v' := ρ x) (by simp [execOp, ho, l2]) hx'
  · rename_i f a b hx
    cases h
    have hx' := hE x (by simp) _ hx
    have hx2 := hx'
    simp only [VR, FR] at hx2
    obtain ⟨g, xs, ys, l1, l2, _⟩ := hx2
    subst l2
    exact ValR.same hR (v' := ρ x) (by simp [execOp, ho, l1]) hx'
  · rename_i f a b hx
    cases h
    have hx' := hE x (by simp) _ hx
    have hx2 := hx'
    simp only [VR, FR] at hx2
    obtain ⟨g, xs, ys, l1, ⟨l, l2, l3⟩, _⟩ := hx2
    subst l3
    exact ValR.same hR (v' := ρ x) (by simp [execOp, ho, l1]) hx'
  · cases h

theorem fieldPlace_eq {fs : Array Field} {i off n : Nat} (h : fieldPlace P fs i = some (off, n)) : ∃ f, fs[i]? = some f ∧ f.offset = off ∧ sizeT P f.type = some n := by
  unfold fieldPlace at h
  split at h
  · rename_i f hf
    split at h
    · rename_i s hs
      cases h
      rw [nth_eq, Array.getElem?_toList] at hf
      exact ⟨f, hf, rfl, hs⟩
    · cases h
  · cases h

theorem faddr_ok (hR : Rel P w0 σ nx H w) {t : TypeId} {x : Operand} {i off n : Nat} {fs : Array Field} (hE : OpdOn σ E ρ [x]) {r : OpR} (ht : P.underlying t = some (.struct fs))
    (hp : fieldPlace P fs i = some (off, n + 1)) (h : faddr off E H nx x = some r) (ho : o.op = .fieldAddr t x i) : OpOk P w0 σ H nx w r (execOp ρ o) := by
  obtain ⟨f, f1, f2, f3⟩ := fieldPlace_eq hp
  unfold faddr at h
  split at h
  · rename_i b o' hx
    cases h
    have hx' := hE x (by simp) _ hx
    simp only [VR] at hx'
    obtain ⟨l, l1, l2⟩ := hx'
    refine ValR.same hR (v' := .pointer (some ((l.at o').add f.offset))) ?_ ?_
    · simp [execOp, ho, Instr.fieldAt, run_und ht, f1, l2, Instr.sureAddr, Go.fieldPlace, run_size f3]
    · simp only [VR]; refine ⟨l, l1, ?_⟩
      rw [Loc.at, add_at, f2, Loc.at, Nat.add_assoc]; rfl
  · cases h

/-- a part of an aggregate's cells -/
theorem partAV_ok {t : TypeId} {cs : List AV} {xs : Array Value} {off : Nat} {a : AV} (hv : VRs σ cs xs.toList) (hs : ∀ x ∈ cs, sc x) (h : eqv.partAV P t cs off = some a) :
    ∃ v, (Go.part t xs off).run P w = .ok v w ∧ VR σ a v := by
  unfold eqv.partAV at h
  have agg : ∀ i : TypeInfo, P.info? t = some i → ((∃ fs, P.underlying t = some (.struct fs)) ∨ ∃ n e, P.underlying t = some (.array n e)) → a = .agg ((cs.drop off).take i.size) →
      ∃ v, (Go.part t xs off).run P w = .ok v w ∧ VR σ a v := by
    intro i hi hd ha
    have h1 : isAggT P t = some true := by rcases hd with ⟨fs, e⟩ | ⟨n, el, e⟩ <;> simp [isAggT, e]
    have h2 : sizeT P t = some i.size := by simp [sizeT, hi]
    refine ⟨.agg (xs.extract off (off + i.size)), by simp [Go.part, run_isAgg h1, run_size h2], ?_⟩
    subst ha
    simp only [VR]
    refine ⟨_, rfl, ?_, fun x hx => hs x (List.mem_of_mem_drop (List.mem_of_mem_take hx))⟩
    rw [Array.toList_extract, List.extract_eq_take_drop, Nat.add_sub_cancel_left]
    exact (hv.drop off).take _
  cases e : P.underlying t with
  | none => simp [e] at h
  | some d =>
    cases hi : P.info? t with
    | none => simp [e, hi] at h
    | some i =>
      rw [e, hi] at h
      have hn : isAggT P t = some false → (cs.drop off).head? = some a → ∃ v, (Go.part t xs off).run P w = .ok v w ∧ VR σ a v := by
        intro h1 h
        rw [List.head?_drop] at h
        obtain ⟨v, v1, v2⟩ := hv.get _ a h
        refine ⟨v, ?_, v2⟩
        rw [Array.getElem?_toList] at v1
        simp [Go.part, run_isAgg h1, v1]
      cases d with
      | struct fs => simp only [Option.some.injEq] at h; exact agg i hi (.inl ⟨_, e⟩) h.symm
      | array n el => simp only [Option.some.injEq] at h; exact agg i hi (.inr ⟨_, _, e⟩) h.symm
      | _ => exact hn (by simp [isAggT, e]) h

theorem opField_ok (hR : Rel P w0 σ nx H w) {t : TypeId} {x : Operand} {i : Nat} (hE : OpdOn σ E ρ [x]) {r : OpR} (h : opField P E H nx t x i = some r) (ho : o.op = .field t x i) : OpOk P w0 σ H nx w r (execOp ρ o) := by
  unfold opField at h
  split at h
  · rename_i cs hx
    split at h
    · rename_i fs ht
      split at h
      · rename_i f hf
        split at h
        · rename_i v hv
          cases h
          have hx' := hE x (by simp) _ hx
          simp only [VR] at hx'
          obtain ⟨xs, x1, x2, x3⟩ := hx'
          obtain ⟨u, u1, u2⟩ := partAV_ok (w := w) x2 x3 hv
          rw [nth_eq, Array.getElem?_toList] at hf
          refine ValR.same hR (v' := u) ?_ u2
          simp [execOp, ho, Instr.field, run_und ht, hf, x1, asAgg, u1]
        · cases h
      · cases h
    · cases h
  · cases h

theorem idxOp_ok (hR : Rel P w0 σ nx H w) {t : TypeId} {x y : Operand} (hE : OpdOn σ E ρ [x, y]) {r : OpR} (h : opIndexAddr P E H nx t x y = some r) (ho : o.op = .indexAddr t x y) : OpOk P w0 σ H nx w r (execOp ρ o) := by
  unfold opIndexAddr at h
  split at h
  · rename_i a ha
    split at h
    · rename_i b hb
      have hx' := hE x (by simp) _ ha
      have hy' := hE y (by simp) _ hb
      unfold idxOp at h
      split at h
      · rename_i k i
        simp only [VR] at hy'
        split at h
        · rename_i n e b off ht
          split at h
          · rename_i size hsz hlt
            cases h
            simp only [VR] at hx'
            obtain ⟨l, l1, l2⟩ := hx'
            have hlt' : i < n := by simpa using hlt
            refine ValR.same hR (v' := .pointer (some ((l.at off).add (i * size)))) ?_ ?_
            · have c : (0 : Int) ≤ Int.ofNat i ∧ Int.ofNat i < (n : Int) := ⟨Int.natCast_nonneg i, by simpa using hlt'⟩
              simp only [execOp, ho, Instr.indexAt, hy', asIntOf, l2, run_und ht, Sem.run_bind, Sem.run_pure, Result.andThen_ok, Instr.sureAddr, pure_bind]
              rw [if_pos c]
              simp [run_size hsz]
            · simp only [VR]; exact ⟨l, l1, by rw [Loc.at, add_at, Loc.at, Nat.add_assoc]; rfl⟩
          · cases h
        · rename_i e b off n c ht
          split at h
          · rename_i size hsz hlt
            cases h
            have hx2 : ∃ l cc, σ b = some l ∧ ρ x = .slice (some (l.at off)) n cc := by
              cases c <;> simp only [VR] at hx' <;> (obtain ⟨l, hx'⟩ := hx')
              · obtain ⟨cc, l1, l2, _⟩ := hx'; exact ⟨l, cc, l1, l2⟩
              · exact ⟨l, _, hx'.1, hx'.2.1⟩
            obtain ⟨l, cc, l1, l2⟩ := hx2
            have hlt' : i < n := by simpa using hlt
            refine ValR.same hR (v' := .pointer (some ((l.at off).add (i * size)))) ?_ ?_
            · have c : (0 : Int) ≤ Int.ofNat i ∧ Int.ofNat i < (n : Int) := ⟨Int.natCast_nonneg i, by simpa using hlt'⟩
              simp only [execOp, ho, Instr.indexAt, hy', asIntOf, l2, run_und ht, Sem.run_bind, Sem.run_pure, Result.andThen_ok, Instr.sureAddr, pure_bind]
              rw [if_pos c]
              simp [run_size hsz]
            · simp only [VR]; exact ⟨l, l1, by rw [Loc.at, add_at, Loc.at, Nat.add_assoc]; rfl⟩
          · cases h
        · cases h
      · cases h
    · cases h
  · cases h

theorem indexOp_ok (hR : Rel P w0 σ nx H w) {t : TypeId} {x y : Operand} (hE : OpdOn σ E ρ [x, y]) {r : OpR} (h : opIndex P E H nx t x y = some r) (ho : o.op = .index t x y) : OpOk P w0 σ H nx w r (execOp ρ o) := by
  unfold opIndex at h
  split at h
  · rename_i a ha
    split at h
    · rename_i b hb
      have hx' := hE x (by simp) _ ha
      have hy' := hE y (by simp) _ hb
      unfold indexOp at h
      split at h
      · rename_i k i
        simp only [VR] at hy'
        split at h
        · rename_i n e cs ht
          split at h
          · rename_i size hsz hlt
            simp only [Option.map_eq_some_iff] at h
            obtain ⟨v, hv, h⟩ := h
            cases h
            simp only [VR] at hx'
            obtain ⟨xs, x1, x2, x3⟩ := hx'
            obtain ⟨u, u1, u2⟩ := partAV_ok (w := w) x2 x3 hv
            have hlt' : i < n := by simpa using hlt
            refine ValR.same hR (v' := u) ?_ u2
            have c : (0 : Int) ≤ Int.ofNat i ∧ Int.ofNat i < (n : Int) := ⟨Int.natCast_nonneg i, by simpa using hlt'⟩
            simp only [execOp, ho, Instr.index, hy', asIntOf, x1, run_und ht, Sem.run_bind, Sem.run_pure, Result.andThen_ok, pure_bind]
            rw [if_pos c]
            simp only [Sem.run_bind, run_size hsz, Result.andThen_ok]
            have : (Int.ofNat i).toNat * size = Nat.mul i size := rfl
            rw [this, u1]; rfl
          · cases h
        · rename_i s ht
          split at h
          · rename_i c hc
            cases h
            simp only [VR] at hx'
            obtain ⟨t', x1, x2⟩ := hx'
            rw [nth_eq, ← x2, List.getElem?_map, Option.map_eq_some_iff] at hc
            obtain ⟨b8, hb8, rfl⟩ := hc
            refine ValR.same hR (v' := .int .u8 b8.toNat) ?_ (by simp only [VR]; rfl)
            have e : t'[i]? = some b8 := by
              rw [← hb8]
              show (if h : i < t'.size then some t'[i] else none) = _
              rw [Array.getElem?_toList]
              by_cases hlt : i < t'.size
              · rw [dif_pos hlt, ByteArray.getElem_eq_getElem_data]
                exact (Array.getElem?_eq_getElem hlt).symm
              · rw [dif_neg hlt]
                exact (Array.getElem?_eq_none (Nat.le_of_not_lt hlt)).symm
            simp only [execOp, ho, Instr.index, hy', asIntOf, x1, run_und ht, Sem.run_bind, Sem.run_pure, Result.andThen_ok, pure_bind]
            have c0 : (0 : Int) ≤ Int.ofNat i := Int.natCast_nonneg i
            rw [if_pos c0]
            have : (Int.ofNat i).toNat = i := rfl
            rw [this, e]; rfl
          · cases h
        · cases h
      · cases h
    · cases h
  · cases h

theorem opIface_ok (hR : Rel P w0 σ nx H w) {t : TypeId} {x : Operand} (hE : OpdOn σ E ρ [x]) {r : OpR} (h : opIface P E H nx t x = some r) (ho : o.op = .makeInterface t x) : OpOk P w0 σ H nx w r (execOp ρ o) := by
  unfold opIface at h
  split at h
  · cases h
  · rename_i d hn ht
    split at h
    · rename_i v hv
      cases h
      refine ValR.same hR (v' := .iface t (ρ x)) ?_ (by simp only [VR]; exact ⟨_, rfl, hE x (by simp) _ hv⟩)
      simp only [execOp, ho, Instr.makeInterface, Sem.run_bind, run_und ht, Result.andThen_ok]
      cases d <;> first | rfl | exact absurd ht (hn _)
    · cases h
  · cases h

theorem evs_ok {xs : List Operand} : ∀ {as : List AV}, OpdOn σ E ρ xs → evs E xs = some as → VRs σ as (xs.map ρ) := by
  induction xs with
  | nil => intro as _ h; simp [evs] at h; subst h; simp [VRs]
  | cons x xs ih =>
    intro as hE h
    simp only [evs] at h
    split at h
    · cases h
    · rename_i a ha
      split at h
      · cases h
      · rename_i r hr
        cases h
        simp only [List.map_cons, VRs]
        exact ⟨_, _, rfl, hE x (by simp) _ ha, ih (fun y hy => hE y (by simp [hy])) hr⟩

theorem opFunc_ok (hR : Rel P w0 σ nx H w) {fn : Fn} {a b : Array Operand} (hf : ∀ l, fn ≠ .yield l) (hE : OpdOn σ E ρ (a.toList ++ b.toList)) {r : OpR} (h : opFunc E H nx fn a.toList b.toList = some r) (ho : o.op = .makeFunc fn a b) : OpOk P w0 σ H nx w r (execOp ρ o) := by
  unfold opFunc at h
  split at h
  · rename_i as has
    split at h
    · rename_i bs hbs
      cases h
      have ha := evs_ok (ρ := ρ) (fun y hy => hE y (by simp [hy])) has
      have hb := evs_ok (ρ := ρ) (fun y hy => hE y (by simp [hy])) hbs
      refine ValR.same hR (v' := .func fn (a.map ρ) (b.map ρ)) ?_ ?_
      · simp [execOp, ho, Instr.makeFunc]
      · simp only [VR]
        refine ⟨fn, _, _, rfl, ?_, by simpa using ha, by simpa using hb⟩
        cases fn <;> first | rfl | exact absurd rfl (hf _)
    · cases h
  · cases h

theorem opExtract_ok (hR : Rel P w0 σ nx H w) {x : Operand} {i : Nat} (hE : OpdOn σ E ρ [x]) {r : OpR} (h : opExtract E H nx x i = some r) (ho : o.op = .extract x i) : OpOk P w0 σ H nx w r (execOp ρ o) := by
  unfold opExtract at h
  split at h
  · rename_i vs hx
    split at h
    · rename_i v hv
      cases h
      have hx' := hE x (by simp) _ hx
      simp only [VR] at hx'
      obtain ⟨xs, x1, x2⟩ := hx'
      rw [nth_eq] at hv
      obtain ⟨u, u1, u2⟩ := x2.get _ _ hv
      rw [Array.getElem?_toList] at u1
      exact ValR.same hR (v' := u) (by simp [execOp, ho, Instr.extract, x1, u1]) u2
    · cases h
  · cases h

theorem placesL_ok : ∀ {fs : List Field} {pl : List (Nat × Nat)}, placesL P fs = some pl →
    (fs.mapM (m := Sem) fun f => do pure (f.offset, ← sizeOf f.type)).run P w = .ok pl w
  | [], pl, h => by simp [placesL] at h; subst h; rfl
  | f :: fs, pl, h => by
    simp only [placesL] at h
    split at h
    · rename_i s hs
      split at h
      · rename_i r hr
        cases h
        simp only [List.mapM_cons, Sem.run_bind, run_size hs, Result.andThen_ok, Sem.run_pure, placesL_ok hr]
      · cases h
    · cases h

theorem opBuild_ok (hR : Rel P w0 σ nx H w) {t : TypeId} {parts : Array (Nat × Operand)} (hE : OpdOn σ E ρ (parts.toList.map (·.2))) {r : OpR} (h : opBuild P E H nx t parts.toList = some r) (ho : o.op = .build t parts) : OpOk P w0 σ H nx w r (execOp ρ o) := by
  unfold opBuild at h
  split at h
  · rename_i z hz
    obtain ⟨i, v, h1, h2, h3, h4⟩ := zeroC_VR σ hz
    split at h
    · rename_i fs ht
      split at h
      · rename_i pl hpl
        split at h
        · rename_i cs hcs
          cases h
          obtain ⟨cells', f1, f2, f3, f4⟩ := fillP_ok (ρ := ρ) (place' := fun i => pl.toArray[i]?) (fun i a h => by rw [nth_eq] at h; simpa using h) _ _ _ v.cells hE h3 h4 hcs
          refine ValR.same hR (v' := .agg cells') ?_ (by simp only [VR]; exact ⟨_, rfl, f2, f3⟩)
          simp only [execOp, ho, Instr.build, Sem.run_bind, run_zero h1 h2, Result.andThen_ok, run_und ht]
          rw [Array.mapM_eq_mapM_toList]
          simp only [Sem.run_map, placesL_ok hpl, Result.andThen_ok, Array.toList_map]
          rw [f1]; rfl
        · cases h
      · cases h
    · rename_i n e ht
      split at h
      · rename_i s hs
        split at h
        · rename_i cs hcs
          cases h
          obtain ⟨cells', f1, f2, f3, f4⟩ := fillP_ok (ρ := ρ) (place' := fun i => some (i * s, s)) (fun _ _ h => h) _ _ _ v.cells hE h3 h4 hcs
          refine ValR.same hR (v' := .agg cells') ?_ (by simp only [VR]; exact ⟨_, rfl, f2, f3⟩)
          simp only [execOp, ho, Instr.build, Sem.run_bind, run_zero h1 h2, Result.andThen_ok, run_und ht, run_size hs]
          simp only [Array.toList_map]
          rw [f1]; rfl
        · cases h
      · cases h
    · cases h
  · cases h

end ops
end Go.SK

