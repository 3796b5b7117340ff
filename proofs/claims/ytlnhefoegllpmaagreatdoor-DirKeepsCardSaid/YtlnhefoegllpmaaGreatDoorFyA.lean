/- The faster evaluator answers what the first one answers: its words and operations. Conditions: none. -/
import Derived.Test.YtlnhefoegllpmaaGreatDoorFx
/- The faster evaluator, first part: its words. -/
namespace Go.SK
open Go

theorem bad_absurd {r : Ans} {p : Prop} (h : Ans.bad = r) (hr : r ≠ .bad) : p := absurd h.symm hr

/-! finite maps -/
theorem tgetF_ok (K : AV → Ans) : ∀ (fuel k : Nat) (t : T AV), k < fuel → (tgetF fuel k).ap t K = match t.get k with | some v => K v | none => .bad
  | 0, k, t, h => absurd h (by omega)
  | fuel + 1, k, t, h => by
    cases k with
    | zero => cases t with
      | e => rfl
      | n l v r => rw [T.get_n0]; cases v <;> rfl
    | succ k =>
      have hk : k / 2 < fuel := by omega
      show TGet.ap (Nat.rec (motive := fun _ => TGet) _ _ (Nat.mod k 2)) t K = _
      have e : Nat.mod k 2 = k % 2 := rfl
      rw [e]
      rcases Nat.mod_two_eq_zero_or_one k with h2 | h2 <;> rw [h2]
      · cases t with
        | e => rfl
        | n l v r => rw [T.get_ns, if_pos h2]; exact tgetF_ok K fuel (k / 2) l hk
      · cases t with
        | e => rfl
        | n l v r => rw [T.get_ns, if_neg (by omega)]; exact tgetF_ok K fuel (k / 2) r hk
theorem tget_ok (K : AV → Ans) (k : Nat) (t : T AV) : (tget k).ap t K = match t.get k with | some v => K v | none => .bad := tgetF_ok K _ k t (Nat.lt_succ_self k)

theorem one_fuel {α : Type} (v : Option α) : ∀ (f g k : Nat), k < f → k < g → T.one v f k = T.one v g k
  | 0, _, _, h, _ => absurd h (by omega)
  | _ + 1, 0, _, _, h => absurd h (by omega)
  | f + 1, g + 1, k, h1, h2 => by
    cases k with
    | zero => rfl
    | succ k => rw [T.one_s, T.one_s, one_fuel v f g (k / 2) (by omega) (by omega)]
theorem tsetF_ok (v : Option AV) (K : T AV → Ans) : ∀ (fuel k : Nat) (t : T AV), k < fuel → (tsetF fuel k).ap t v K = K (t.set k v)
  | 0, k, t, h => absurd h (by omega)
  | fuel + 1, k, t, h => by
    induction fuel generalizing k t K with
    | zero =>
      have : k = 0 := by omega
      subst this
      cases t <;> rfl
    | succ fuel ih =>
      cases k with
      | zero => cases t <;> rfl
      | succ k =>
        have hk : k / 2 < fuel + 1 := by omega
        show TSet.ap (Nat.rec (motive := fun _ => TSet) _ _ (Nat.mod k 2)) t v K = _
        have e : Nat.mod k 2 = k % 2 := rfl
        rw [e]
        rcases Nat.mod_two_eq_zero_or_one k with h2 | h2 <;> rw [h2]
        · cases t with
          | e =>
            show TSet.ap (tsetF (fuel + 1) (k / 2)) .e v _ = _
            rw [ih _ _ .e hk]
            rw [T.set_e, T.set_e, T.one_s, if_pos h2, one_fuel v (k + 1) (k / 2 + 1) (k / 2) (by omega) (by omega)]
          | n l u r =>
            show TSet.ap (tsetF (fuel + 1) (k / 2)) l v _ = _
            rw [ih _ _ l hk, T.set_ns, if_pos h2]
        · cases t with
          | e =>
            show TSet.ap (tsetF (fuel + 1) (k / 2)) .e v _ = _
            rw [ih _ _ .e hk]
            rw [T.set_e, T.set_e, T.one_s, if_neg (by omega), one_fuel v (k + 1) (k / 2 + 1) (k / 2) (by omega) (by omega)]
          | n l u r =>
            show TSet.ap (tsetF (fuel + 1) (k / 2)) r v _ = _
            rw [ih _ _ r hk, T.set_ns, if_neg (by omega)]
theorem tset_ok (v : Option AV) (K : T AV → Ans) (k : Nat) (t : T AV) : (tset k).ap t v K = K (t.set k v) := tsetF_ok v K _ k t (Nat.lt_succ_self k)

theorem hget_ok (k : AObj → Ans) : ∀ (H : Heap) (b : Nat), hget H b k = match H.get b with | some o => k o | none => .bad := by
  intro H
  induction H with
  | e => intro b; rfl
  | n l v r ihl ihr =>
    intro b
    cases b with
    | zero => rw [T.get_n0]; cases v <;> rfl
    | succ b =>
      show Nat.rec (motive := fun _ => Ans) (hget l (Nat.div b 2) k) (fun _ _ => hget r (Nat.div b 2) k) (Nat.mod b 2) = _
      have e : Nat.mod b 2 = b % 2 := rfl
      rw [e, T.get_ns]
      rcases Nat.mod_two_eq_zero_or_one b with h2 | h2 <;> rw [h2]
      · rw [if_pos rfl]; exact ihl _
      · rw [if_neg (by omega)]; exact ihr _
theorem hset_ok (v : Option AObj) : ∀ (H : Heap) (b : Nat) (k : Heap → Ans), hset H b v k = k (H.set b v) := by
  intro H
  induction H with
  | e => intro b k; rfl
  | n l u r ihl ihr =>
    intro b k
    cases b with
    | zero => rfl
    | succ b =>
      show Nat.rec (motive := fun _ => Ans) (hset l (Nat.div b 2) v fun l => k (.n l u r)) (fun _ _ => hset r (Nat.div b 2) v fun r => k (.n l u r)) (Nat.mod b 2) = _
      have e : Nat.mod b 2 = b % 2 := rfl
      rw [e, T.set_ns]
      rcases Nat.mod_two_eq_zero_or_one b with h2 | h2 <;> rw [h2]
      · rw [if_pos rfl]; exact ihl _ _
      · rw [if_neg (by omega)]; exact ihr _ _

theorem msel_ok (k : AV → Ans) : ∀ (i : Nat) (s : List AV), (msel i).ap s k = match nth s i with | some a => k a | none => .bad
  | 0, [] => rfl
  | 0, _ :: _ => rfl
  | _ + 1, [] => rfl
  | i + 1, _ :: s => msel_ok k i s

/-! parts -/
section
variable {a : AV} {r : Ans}
theorem kInt_ok {k : IntKind → Int → Ans} (h : kInt a k = r) (hr : r ≠ .bad) : ∃ i n, a = .int i n ∧ k i n = r := by
  cases a <;> first | exact ⟨_, _, rfl, h⟩ | exact bad_absurd h hr
theorem kPtr_ok {k : Nat → Nat → Ans} (h : kPtr a k = r) (hr : r ≠ .bad) : ∃ b o, a = .ptr b o ∧ k b o = r := by
  cases a <;> first | exact ⟨_, _, rfl, h⟩ | exact bad_absurd h hr
theorem kBool_ok {k : Bool → Ans} (h : kBool a k = r) (hr : r ≠ .bad) : ∃ b, a = .bool b ∧ k b = r := by
  cases a <;> first | exact ⟨_, rfl, h⟩ | exact bad_absurd h hr
theorem kTup_ok {k : List AV → Ans} (h : kTup a k = r) (hr : r ≠ .bad) : ∃ vs, a = .tup vs ∧ k vs = r := by
  cases a <;> first | exact ⟨_, rfl, h⟩ | exact bad_absurd h hr
theorem kStr_ok {k : List Nat → Ans} (h : kStr a k = r) (hr : r ≠ .bad) : ∃ s, a = .str s ∧ k s = r := by
  cases a <;> first | exact ⟨_, rfl, h⟩ | exact bad_absurd h hr
theorem kAgg_ok {k : List AV → Ans} (h : kAgg a k = r) (hr : r ≠ .bad) : ∃ s, a = .agg s ∧ k s = r := by
  cases a <;> first | exact ⟨_, rfl, h⟩ | exact bad_absurd h hr
theorem kSlc_ok {k : Nat → Nat → Nat → Ans} (h : kSlc a k = r) (hr : r ≠ .bad) : ∃ b o n c, a = .slc b o n c ∧ k b o n = r := by
  cases a <;> first | exact ⟨_, _, _, _, rfl, h⟩ | exact bad_absurd h hr
theorem kSl_ok {z : Ans} {k : Nat → Nat → Nat → Option Nat → Ans} (h : kSl a z k = r) (hr : r ≠ .bad) : (a = .nils ∧ z = r) ∨ ∃ b o n c, a = .slc b o n c ∧ k b o n c = r := by
  cases a <;> first | exact .inr ⟨_, _, _, _, rfl, h⟩ | exact .inl ⟨rfl, h⟩ | exact bad_absurd h hr
theorem kSls_ok {z : Ans} {k : Nat → Nat → Nat → Option Nat → Ans} {ks : List Nat → Ans} (h : kSls a z k ks = r) (hr : r ≠ .bad) :
    (a = .nils ∧ z = r) ∨ (∃ b o n c, a = .slc b o n c ∧ k b o n c = r) ∨ ∃ s, a = .str s ∧ ks s = r := by
  cases a <;> first | exact .inr (.inl ⟨_, _, _, _, rfl, h⟩) | exact .inr (.inr ⟨_, rfl, h⟩) | exact .inl ⟨rfl, h⟩ | exact bad_absurd h hr
theorem kPn_ok {z n : Ans} (h : kPn a z n = r) (hr : r ≠ .bad) : (a = .nilp ∧ z = r) ∨ ∃ b o, a = .ptr b o ∧ n = r := by
  cases a <;> first | exact .inr ⟨_, _, rfl, h⟩ | exact .inl ⟨rfl, h⟩ | exact bad_absurd h hr
theorem kLen_ok {k : Nat → Ans} (h : kLen a k = r) (hr : r ≠ .bad) : (a = .nils ∧ k 0 = r) ∨ ∃ b o n c, a = .slc b o n c ∧ k n = r := by
  cases a <;> first | exact .inr ⟨_, _, _, _, rfl, h⟩ | exact .inl ⟨rfl, h⟩ | exact bad_absurd h hr
theorem kGuard_ok {k : Bool → Ans} {u : Ans} (h : kGuard a k u = r) (hr : r ≠ .bad) : (∃ b, a = .bool b ∧ k b = r) ∨ ∃ vs, a = .tup vs ∧ u = r := by
  cases a <;> first | exact .inl ⟨_, rfl, h⟩ | exact .inr ⟨_, rfl, h⟩ | exact bad_absurd h hr
theorem kOne_ok {k : Ans} (h : kOne a k = r) (hr : r ≠ .bad) : a.cells = some [a] ∧ k = r := by
  cases a <;> first | exact ⟨rfl, h⟩ | exact bad_absurd h hr
theorem kNil_ok {k : Ans} (h : kNil a k = r) (hr : r ≠ .bad) : ((∃ b o, a = .ptr b o) ∨ (∃ f x y, a = .func (.func f) x y) ∨ ∃ l x y, a = .func (.yield l) x y) ∧ k = r := by
  cases a with
  | ptr b o => exact ⟨.inl ⟨b, o, rfl⟩, h⟩
  | func fn x y => cases fn <;> first | exact ⟨.inr (.inl ⟨_, _, _, rfl⟩), h⟩ | exact ⟨.inr (.inr ⟨_, _, _, rfl⟩), h⟩ | exact bad_absurd h hr
  | _ => exact bad_absurd h hr
theorem kNat_ok {n : Int} {k : Nat → Ans} (h : kNat n k = r) (hr : r ≠ .bad) : ∃ m, n = .ofNat m ∧ k m = r := by
  cases n <;> first | exact ⟨_, rfl, h⟩ | exact bad_absurd h hr
theorem fnatR_eq (n : Nat) (k : Nat → Ans) : fnatR n k = k n := by cases n <;> rfl
theorem kIf_eq (b : Bool) (x y : Ans) : kIf b x y = if b then x else y := by cases b <;> rfl
theorem kIf_ok {b : Bool} {x : Ans} (h : kIf b x .bad = r) (hr : r ≠ .bad) : b = true ∧ x = r := by
  cases b <;> first | exact ⟨rfl, h⟩ | exact bad_absurd h hr
theorem kSome_ok {β : Type} {x : Option β} {k : β → Ans} (h : kSome x k = r) (hr : r ≠ .bad) : ∃ v, x = some v ∧ k v = r := by
  cases x <;> first | exact ⟨_, rfl, h⟩ | exact bad_absurd h hr
theorem kSome_some {β : Type} (v : β) (k : β → Ans) : kSome (some v) k = k v := rfl
theorem kRw_ok {c : CK} {k : Ans} (h : kRw c k = r) (hr : r ≠ .bad) : c ≠ .ro ∧ k = r := by
  cases c <;> first | exact ⟨by simp, h⟩ | exact bad_absurd h hr
theorem kCells_ok {H : Heap} {b : Nat} {k : List AV → TypeId → CK → Ans} (h : kCells H b k = r) (hr : r ≠ .bad) : ∃ cs e c, H.get b = some (.cells cs e c) ∧ k cs e c = r := by
  unfold kCells at h
  rw [hget_ok] at h
  split at h
  · rename_i o ho
    cases o <;> first | exact ⟨_, _, _, ho, h⟩ | exact bad_absurd h hr
  · exact bad_absurd h hr
end

/-! lists -/
section
variable {β : Type}
theorem kNth_eq (k : β → Ans) : ∀ (o : Nat) (l : List β), kNth o l k = match nth l o with | some a => k a | none => .bad
  | 0, [] => rfl
  | 0, _ :: _ => rfl
  | _ + 1, [] => rfl
  | o + 1, _ :: l => kNth_eq k o l
theorem kNth_ok {o : Nat} {l : List β} {k : β → Ans} {r : Ans} (h : kNth o l k = r) (hr : r ≠ .bad) : ∃ a, nth l o = some a ∧ k a = r := by
  rw [kNth_eq] at h
  split at h
  · exact ⟨_, by assumption, h⟩
  · exact bad_absurd h hr
theorem over_nil (l : List β) : over [] l = some l := by cases l <;> rfl
theorem kUpd_eq (v : β) : ∀ (o : Nat) (l : List β) (k : List β → Ans), kUpd v o l k = match splice o [v] l with | some r => k r | none => .bad
  | 0, [], _ => rfl
  | 0, x :: l, k => by simp only [splice, over]; rfl
  | _ + 1, [], _ => rfl
  | o + 1, x :: l, k => by
    show kUpd v o l (fun r => k (x :: r)) = _
    rw [kUpd_eq v o l]
    simp only [splice]
    cases splice o [v] l <;> rfl
theorem kTake_eq : ∀ (n : Nat) (l : List β) (k : List β → Ans), kTake n l k = match takeN n l with | some r => k r | none => .bad
  | 0, l, k => by cases l <;> rfl
  | _ + 1, [], _ => rfl
  | n + 1, x :: l, k => by
    show kTake n l (fun r => k (x :: r)) = _
    rw [kTake_eq n l]
    simp only [takeN]
    cases takeN n l <;> rfl
theorem kDrop_eq (k : List β → Ans) : ∀ (n : Nat) (l : List β), kDrop n l k = match dropN n l with | some r => k r | none => .bad
  | 0, l => by cases l <;> rfl
  | _ + 1, [] => rfl
  | n + 1, _ :: l => kDrop_eq k n l
theorem kOver_eq : ∀ (xs l : List β) (k : List β → Ans), kOver xs l k = match over xs l with | some r => k r | none => .bad
  | [], l, k => by rw [over_nil]; rfl
  | _ :: _, [], _ => rfl
  | x :: xs, y :: l, k => by
    show kOver xs l (fun r => k (x :: r)) = _
    rw [kOver_eq xs l]
    simp only [over]
    cases over xs l <;> rfl
theorem kSplice_eq (xs : List β) : ∀ (o : Nat) (l : List β) (k : List β → Ans), kSplice xs o l k = match splice o xs l with | some r => k r | none => .bad
  | 0, l, k => by
    show kOver xs l k = _
    rw [kOver_eq]
    cases l <;> rfl
  | _ + 1, [], _ => rfl
  | o + 1, x :: l, k => by
    show kSplice xs o l (fun r => k (x :: r)) = _
    rw [kSplice_eq xs o l]
    simp only [splice]
    cases splice o xs l <;> rfl
theorem kCons_eq (m : List β) : ∀ (l : List β) (k : List β → Ans), kCons l m k = k (l ++ m)
  | [], _ => rfl
  | a :: l, k => by
    show kCons l m (fun r => k (a :: r)) = _
    rw [kCons_eq m l]; rfl
theorem kLenL_eq : ∀ (l : List β) (k : Nat → Ans), kLenL l k = k (len l)
  | [], _ => rfl
  | _ :: l, k => by
    show kLenL l (fun n => k (Nat.succ n)) = _
    rw [kLenL_eq l]; rfl
theorem takeN_len : ∀ (l : List β), takeN (len l) l = some l
  | [] => rfl
  | a :: l => by simp only [len, takeN, takeN_len l]
theorem kTake_ok {n : Nat} {l : List β} {k : List β → Ans} {r : Ans} (h : kTake n l k = r) (hr : r ≠ .bad) : ∃ a, takeN n l = some a ∧ k a = r := by
  rw [kTake_eq] at h
  split at h
  · exact ⟨_, by assumption, h⟩
  · exact bad_absurd h hr
theorem kDrop_ok {n : Nat} {l : List β} {k : List β → Ans} {r : Ans} (h : kDrop n l k = r) (hr : r ≠ .bad) : ∃ a, dropN n l = some a ∧ k a = r := by
  rw [kDrop_eq] at h
  split at h
  · exact ⟨_, by assumption, h⟩
  · exact bad_absurd h hr
theorem kUpd_ok {v : β} {o : Nat} {l : List β} {k : List β → Ans} {r : Ans} (h : kUpd v o l k = r) (hr : r ≠ .bad) : ∃ a, splice o [v] l = some a ∧ k a = r := by
  rw [kUpd_eq] at h
  split at h
  · exact ⟨_, by assumption, h⟩
  · exact bad_absurd h hr
theorem kSplice_ok {xs : List β} {o : Nat} {l : List β} {k : List β → Ans} {r : Ans} (h : kSplice xs o l k = r) (hr : r ≠ .bad) : ∃ a, splice o xs l = some a ∧ k a = r := by
  rw [kSplice_eq] at h
  split at h
  · exact ⟨_, by assumption, h⟩
  · exact bad_absurd h hr
end
theorem kPart_ok {o n : Nat} {l : List AV} {k : List AV → Ans} {r : Ans} (h : kDrop o l (fun x => kTake n x k) = r) (hr : r ≠ .bad) : ∃ a, part l o n = some a ∧ k a = r := by
  obtain ⟨x, hx, h⟩ := kDrop_ok h hr
  obtain ⟨y, hy, h⟩ := kTake_ok h hr
  exact ⟨y, by simp only [part, hx, hy], h⟩
theorem kReps_eq (z : List AV) : ∀ (n : Nat) (k : List AV → Ans), kReps z n k = k (reps n z)
  | 0, _ => rfl
  | n + 1, k => by
    show kReps z n (fun r => kCons z r k) = _
    rw [kReps_eq z n, kCons_eq]; rfl
theorem kStrCells_eq : ∀ (l : List Nat) (k : List AV → Ans), kStrCells l k = k (l.map fun c => .int .u8 (.ofNat c))
  | [], _ => rfl
  | c :: l, k => by
    show kStrCells l (fun r => k (.int .u8 (.ofNat c) :: r)) = _
    rw [kStrCells_eq l]; rfl
theorem kLeq_eq : ∀ (a b : List Nat) (t f : Ans), kLeq a b t f = if leq a b then t else f
  | [], [], _, _ => rfl
  | [], _ :: _, _, _ => rfl
  | _ :: _, [], _, _ => rfl
  | x :: a, y :: b, t, f => by
    show kIf (Nat.beq x y) (kLeq a b t f) f = _
    rw [kLeq_eq a b, kIf_eq]
    simp only [leq]
    by_cases hb : Nat.beq x y = true
    · simp [hb]
    · simp only [Bool.not_eq_true] at hb; simp [hb]

/-! numbers -/
theorem isKind_eq {k j : IntKind} : isKind k j = true ↔ j = k := by cases k <;> cases j <;> simp [isKind]
theorem keq_self (k : IntKind) : keq k k = true := by cases k <;> rfl
theorem rint_w (k : IntKind) (n : Int) : rint k n = some (.int k (wrp k n)) := by unfold rint; rw [fint_eq]
theorem fitN_eq (kd : IntKind) (m : Nat) (k : AV → Ans) : fitN kd (half kd) m k = kSome (rint kd (.ofNat m)) k := by
  unfold fitN
  rw [kIf_eq, fnatR_eq, rint_w]
  simp only [kSome_some]
  unfold wrp
  cases h : Nat.ble (half kd) m
  · rw [if_neg (by simp)]
    simp only [h]
  · rw [if_pos rfl]
theorem fitN_ok {kd : IntKind} {m : Nat} {k : AV → Ans} {r : Ans} (h : fitN kd (half kd) m k = r) (hr : r ≠ .bad) : ∃ v, rint kd (.ofNat m) = some v ∧ k v = r := by
  rw [fitN_eq] at h; exact kSome_ok h hr
theorem fitR_ok {kd : IntKind} {n : Int} {k : AV → Ans} {r : Ans} (h : fitR kd (half kd) n k = r) (hr : r ≠ .bad) : ∃ v, rint kd n = some v ∧ k v = r := by
  cases n with
  | ofNat m => exact fitN_ok h hr
  | negSucc m => exact kSome_ok h hr

section
variable {kd : IntKind} {a b : Int} {k : AV → Ans} {r : Ans}
theorem kAdd_ok (h : kAdd kd (half kd) a b k = r) (hr : r ≠ .bad) : ∃ v, rint kd (iadd a b) = some v ∧ k v = r := by
  cases a <;> cases b <;> first | exact fitN_ok h hr | exact kSome_ok h hr
theorem kMul_ok (h : kMul kd (half kd) a b k = r) (hr : r ≠ .bad) : ∃ v, rint kd (imul a b) = some v ∧ k v = r := by
  cases a <;> cases b <;> first | exact fitN_ok h hr | exact kSome_ok h hr
theorem kSub_ok (h : kSub kd (half kd) a b k = r) (hr : r ≠ .bad) : ∃ v, rint kd (isub a b) = some v ∧ k v = r := by
  cases a with
  | negSucc x => cases b <;> exact kSome_ok h hr
  | ofNat x => cases b with
    | negSucc y => exact kSome_ok h hr
    | ofNat y =>
      have h' : kIf (Nat.ble y x) (fitN kd (half kd) (Nat.sub x y) k) (kSome (rint kd (Int.sub (.ofNat x) (.ofNat y))) k) = r := h
      rw [kIf_eq] at h'
      simp only [isub]
      cases hb : Nat.ble y x <;> rw [hb] at h'
      · exact kSome_ok h' hr
      · exact fitN_ok h' hr
theorem kLe_eq (a b : Int) (t f : Ans) : kLe a b t f = if ilt b a then f else t := by
  cases a with
  | ofNat x => cases b with
    | ofNat y =>
      show kIf (Nat.ble x y) t f = _
      rw [kIf_eq]
      simp only [ilt]
      by_cases h : x ≤ y
      · have h1 : Nat.ble x y = true := Nat.ble_eq_true_of_le h
        have h2 : Nat.blt y x = false := by rw [Bool.eq_false_iff]; intro c; have := Nat.le_of_ble_eq_true c; omega
        simp only [h1, h2, if_true, Bool.false_eq_true, if_false]
      · have h1 : Nat.ble x y = false := by rw [Bool.eq_false_iff]; intro c; exact h (Nat.le_of_ble_eq_true c)
        have h2 : Nat.blt y x = true := Nat.ble_eq_true_of_le (by omega)
        simp only [h1, h2, if_true, Bool.false_eq_true, if_false]
    | negSucc y => rfl
  | negSucc x => cases b with
    | ofNat y => rfl
    | negSucc y =>
      show kIf (Nat.ble y x) t f = _
      rw [kIf_eq]
      simp only [ilt]
      by_cases h : y ≤ x
      · have h1 : Nat.ble y x = true := Nat.ble_eq_true_of_le h
        have h2 : Nat.blt x y = false := by rw [Bool.eq_false_iff]; intro c; have := Nat.le_of_ble_eq_true c; omega
        simp only [h1, h2, if_true, Bool.false_eq_true, if_false]
      · have h1 : Nat.ble y x = false := by rw [Bool.eq_false_iff]; intro c; exact h (Nat.le_of_ble_eq_true c)
        have h2 : Nat.blt x y = true := Nat.ble_eq_true_of_le (by omega)
        simp only [h1, h2, if_true, Bool.false_eq_true, if_false]
theorem kEq_eq (a b : Int) (t f : Ans) : kEq a b t f = if ieq a b then t else f := by
  cases a <;> cases b <;> first | rfl | exact kIf_eq _ _ _
theorem kNn_ok {k : Nat → Nat → Ans} (h : kNn a b k = r) (hr : r ≠ .bad) : ∃ x y, a = .ofNat x ∧ b = .ofNat y ∧ k x y = r := by
  obtain ⟨x, h1, h2⟩ := kNat_ok h hr
  obtain ⟨y, h3, h4⟩ := kNat_ok h2 hr
  exact ⟨x, y, h1, h3, h4⟩
end

theorem iOp_ok {kd : IntKind} {op : BinOp} {io : IOp} {a b : Int} {k : AV → Ans} {r : Ans} (hi : iOp kd op = some io) (h : io.ap a b k = r) (hr : r ≠ .bad) : ∃ v, intOp op kd a b = some v ∧ k v = r := by
  unfold iOp at hi
  split at hi
  · cases hi; exact kAdd_ok h hr
  · cases hi; exact kSub_ok h hr
  · cases hi; exact kMul_ok h hr
  · cases hi
    have h' : kEq a b (k (.bool true)) (k (.bool false)) = r := h
    rw [kEq_eq] at h'
    simp only [intOp]
    refine ⟨_, rfl, ?_⟩
    cases hb : ieq a b <;> rw [hb] at h' <;> exact h'
  · cases hi
    have h' : kEq a b (k (.bool false)) (k (.bool true)) = r := h
    rw [kEq_eq] at h'
    simp only [intOp]
    refine ⟨_, rfl, ?_⟩
    cases hb : ieq a b <;> rw [hb] at h' <;> exact h'
  · cases hi
    have h' : kLe b a (k (.bool false)) (k (.bool true)) = r := h
    rw [kLe_eq] at h'
    simp only [intOp]
    refine ⟨_, rfl, ?_⟩
    cases hb : ilt a b <;> rw [hb] at h' <;> exact h'
  · cases hi
    have h' : kLe a b (k (.bool true)) (k (.bool false)) = r := h
    rw [kLe_eq] at h'
    simp only [intOp]
    refine ⟨_, rfl, ?_⟩
    cases hb : ilt b a <;> rw [hb] at h' <;> exact h'
  · cases hi
    have h' : kLe a b (k (.bool false)) (k (.bool true)) = r := h
    rw [kLe_eq] at h'
    simp only [intOp]
    refine ⟨_, rfl, ?_⟩
    cases hb : ilt b a <;> rw [hb] at h' <;> exact h'
  · cases hi
    have h' : kLe b a (k (.bool true)) (k (.bool false)) = r := h
    rw [kLe_eq] at h'
    simp only [intOp]
    refine ⟨_, rfl, ?_⟩
    cases hb : ilt a b <;> rw [hb] at h' <;> exact h'
  · cases hi
    obtain ⟨x, y, e1, e2, h2⟩ := kNn_ok h hr
    clear h; subst e1 e2; have h := h2; clear h2
    rw [kIf_eq] at h
    simp only [intOp]
    have e : ieq (.ofNat y) 0 = Nat.beq y 0 := rfl
    rw [e]
    cases hb : Nat.beq y 0 <;> rw [hb] at h
    · exact fitN_ok h hr
    · exact bad_absurd h hr
  · cases hi
    obtain ⟨x, y, e1, e2, h2⟩ := kNn_ok h hr
    clear h; subst e1 e2; have h := h2; clear h2
    rw [kIf_eq] at h
    simp only [intOp]
    have e : ieq (.ofNat y) 0 = Nat.beq y 0 := rfl
    rw [e]
    cases hb : Nat.beq y 0 <;> rw [hb] at h
    · simp only [Bool.false_eq_true, if_false, fnatR_eq] at h
      exact ⟨_, by simp only [fint_eq]; rfl, h⟩
    · exact bad_absurd h hr
  all_goals first
    | (cases hi
       obtain ⟨x, y, e1, e2, h2⟩ := kNn_ok h hr
       clear h; subst e1 e2; have h := h2; clear h2
       rw [kIf_eq] at h
       split at h
       · exact bad_absurd h hr
       · rename_i h1
         rw [kIf_eq] at h
         split at h
         · exact bad_absurd h hr
         · rename_i h2
           obtain ⟨v, hv, h⟩ := fitN_ok h hr
           refine ⟨v, ?_, h⟩
           simp only [Bool.not_eq_true] at h1 h2
           simp only [intOp, bitOp, h1, h2, Bool.or_self, natBits]
           exact hv)
    | cases hi

theorem sOp_ok {kd k' : IntKind} {op : BinOp} {io : IOp} {a b : Int} {k : AV → Ans} {r : Ans} {P : Program} {H : Heap} {t : TypeId} {cst : Bool} (hi : sOp kd op = some io) (h : io.ap a b k = r) (hr : r ≠ .bad) :
    ∃ v, binA P H op t cst (.int kd a) (.int k' b) = some v ∧ k v = r := by
  unfold sOp at hi
  split at hi
  · cases hi
    obtain ⟨x, y, e1, e2, h2⟩ := kNn_ok h hr
    clear h; subst e1 e2; have h := h2; clear h2
    rw [kIf_eq] at h
    split at h
    · exact bad_absurd h hr
    · rename_i h1
      simp only [Bool.not_eq_true] at h1
      obtain ⟨v, hv, h⟩ := fitN_ok h hr
      refine ⟨v, ?_, h⟩
      simp only [binA, shiftOp, shAmt, h1, imul]
      exact hv
  · cases hi
    obtain ⟨x, y, e1, e2, h2⟩ := kNn_ok h hr
    clear h; subst e1 e2; have h := h2; clear h2
    rw [kIf_eq] at h
    split at h
    · exact bad_absurd h hr
    · rename_i h1
      simp only [Bool.not_eq_true] at h1
      rw [fnatR_eq] at h
      refine ⟨_, ?_, h⟩
      simp only [binA, shiftOp, shAmt, h1, fint_eq]
  · cases hi
end Go.SK

/- The faster evaluator, second part: operands, calls, the operations that run no code. -/
namespace Go.SK
open Go

/-! operands -/
def LR (D : Nat) (c : CEnv) (s : List AV) : Prop := s.length = D ∧ ∀ p ∈ c, ∀ n, p.2 = .lv n → n < D

theorem valLc_push {D : Nat} {l : Lc} {s : List AV} (v : AV) (h : ∀ n, l = .lv n → n < D) : valLc (D + 1) l (v :: s) = valLc D l s := by
  cases l with
  | cst a => rfl
  | lv n =>
    have hn := h n rfl
    simp only [valLc]
    have e : Nat.sub (D + 1) (Nat.succ n) = Nat.sub D (Nat.succ n) + 1 := by show D + 1 - (n + 1) = D - (n + 1) + 1; omega
    rw [e]
    simp only [nth]
theorem locOf_push {D : Nat} {s : List AV} (v : AV) : ∀ {c : CEnv}, (∀ p ∈ c, ∀ n, p.2 = .lv n → n < D) → locOf (D + 1) c (v :: s) = locOf D c s
  | [], _ => rfl
  | p :: c, h => by
    show (p.1, valLc (D + 1) p.2 (v :: s)) :: locOf (D + 1) c (v :: s) = (p.1, valLc D p.2 s) :: locOf D c s
    rw [valLc_push v (h p (by simp)), locOf_push v fun q hq => h q (by simp [hq])]

theorem look_locOf (tm : T AV) (t D : Nat) (s : List AV) : ∀ (c : CEnv), look tm t (locOf D c s) = match clook t c with | some l => some (valLc D l s) | none => tm.get t
  | [] => rfl
  | p :: c => by
    have ih := look_locOf tm t D s c
    show Bool.rec (motive := fun _ => Option AV) (look tm t (locOf D c s)) (some (valLc D p.2 s)) (Nat.beq p.1 t) = match Bool.rec (motive := fun _ => Option Lc) (clook t c) (some p.2) (Nat.beq p.1 t) with | some l => some (valLc D l s) | none => tm.get t
    cases Nat.beq p.1 t
    · exact ih
    · rfl
theorem clook_mem {t : Nat} {l : Lc} : ∀ {c : CEnv}, clook t c = some l → ∃ p ∈ c, p.2 = l
  | [], h => by cases h
  | p :: c, h => by
    have h' : Bool.rec (motive := fun _ => Option Lc) (clook t c) (some p.2) (Nat.beq p.1 t) = some l := h
    revert h'
    cases Nat.beq p.1 t
    · intro h'
      obtain ⟨q, hq, e⟩ := clook_mem (c := c) h'
      exact ⟨q, by simp [hq], e⟩
    · intro h'; cases h'; exact ⟨p, by simp, rfl⟩

section
variable {D : Nat} {c : CEnv} {s : List AV} {tm : T AV} {r : Ans}
theorem gLc_ok {l : Lc} {k : AV → Ans} (hs : s.length = D) (hl : ∀ n, l = .lv n → n < D) : (gLc D l).ap tm s k = k (valLc D l s) := by
  cases l with
  | cst a => rfl
  | lv n =>
    have hn := hl n rfl
    show (msel (Nat.sub D (Nat.succ n))).ap s k = _
    rw [msel_ok]
    have hlt : D - (n + 1) < s.length := by omega
    have : nth s (Nat.sub D (Nat.succ n)) = some (s[D - (n + 1)]) := by rw [nth_eq]; exact List.getElem?_eq_getElem hlt
    simp only [valLc, this]
theorem gTmp_ok {t : Nat} {k : AV → Ans} (hL : LR D c s) (h : (gTmp D c t).ap tm s k = r) (hr : r ≠ .bad) : ∃ v, look tm t (locOf D c s) = some v ∧ k v = r := by
  rw [look_locOf]
  unfold gTmp at h
  cases hc : clook t c with
  | some l =>
    rw [hc] at h
    obtain ⟨p, hp, e⟩ := clook_mem hc
    rw [gLc_ok hL.1 fun n hn => hL.2 p hp n (by rw [e, hn])] at h
    exact ⟨_, rfl, h⟩
  | none =>
    rw [hc] at h
    have h' : (tget t).ap tm k = r := h
    rw [tget_ok] at h'
    split at h'
    · rename_i v hv; exact ⟨v, hv, h'⟩
    · exact bad_absurd h' hr
theorem gOp_ok {x : Operand} {k : AV → Ans} (hL : LR D c s) (h : (gOp D c x).ap tm s k = r) (hr : r ≠ .bad) : ∃ v, ev ⟨locOf D c s, tm⟩ x = some v ∧ k v = r := by
  unfold gOp at h
  cases x with
  | tmp t => exact gTmp_ok hL h hr
  | const v =>
    simp only at h
    split at h
    · rename_i a ha; exact ⟨a, ha, h⟩
    · exact bad_absurd h hr
  | «global» g => exact ⟨_, rfl, h⟩
  | func f => exact ⟨_, rfl, h⟩
theorem gOps_ok (hL : LR D c s) (hr : r ≠ .bad) : ∀ {l : List Operand} {k : List AV → Ans}, (gOps D c l).ap tm s k = r → ∃ vs, evs ⟨locOf D c s, tm⟩ l = some vs ∧ k vs = r
  | [], k, h => ⟨[], rfl, h⟩
  | x :: l, k, h => by
    have h' : (gOp D c x).ap tm s (fun a => (gOps D c l).ap tm s fun r => k (a :: r)) = r := h
    obtain ⟨v, hv, h1⟩ := gOp_ok hL h' hr
    obtain ⟨vs, hvs, h2⟩ := gOps_ok hL hr h1
    exact ⟨v :: vs, by simp only [evs, hv, hvs], h2⟩
end

/-! calls -/
theorem tmOfF_eq (k : T AV → Ans) : ∀ (l : List AV) (i : Nat) (t : T AV), tmOfF l i t k = k (tmOf l i t)
  | [], _, _ => rfl
  | a :: l, i, t => by
    show (tset i).ap t (some a) (fun t => tmOfF l (i + 1) t k) = _
    rw [tset_ok, tmOfF_eq k l]; rfl
theorem resF_ok {P : Program} {H : Heap} {tm : T AV} {r : Ans} (hr : r ≠ .bad) : ∀ {l : List ResultVar} {k : List AV → Ans}, (resF P l).ap H tm k = r → ∃ vs, resA P H tm l = some vs ∧ k vs = r
  | [], k, h => ⟨[], rfl, h⟩
  | .tmp t :: l, k, h => by
    have h' : (tget t).ap tm (fun v => (resF P l).ap H tm fun vs => k (v :: vs)) = r := h
    rw [tget_ok] at h'
    split at h'
    · rename_i v hv
      obtain ⟨vs, hvs, h2⟩ := resF_ok hr h'
      exact ⟨v :: vs, by simp only [resA, hv, hvs], h2⟩
    · exact bad_absurd h' hr
  | .cell a t :: l, k, h => by
    have h' : (tget a).ap tm (fun p => kSome (loadA P t H p) fun v => (resF P l).ap H tm fun vs => k (v :: vs)) = r := h
    rw [tget_ok] at h'
    split at h'
    · rename_i p hp
      obtain ⟨v, hv, h'⟩ := kSome_ok h' hr
      obtain ⟨vs, hvs, h2⟩ := resF_ok hr h'
      exact ⟨v :: vs, by simp only [resA, hp, hv, hvs], h2⟩
    · exact bad_absurd h' hr
theorem resVF_eq (vs : List AV) (k : AV → Ans) : resVF vs k = k (resV vs) := by
  cases vs with
  | nil => rfl
  | cons v l => cases l <;> rfl
theorem kUnmark_ok {ms : List Nat} {H : Heap} {k : Heap → Ans} {r : Ans} (h : kUnmark ms H k = r) (hr : r ≠ .bad) : ∃ H', unmark ms H = some H' ∧ k H' = r := by
  cases ms with
  | nil => exact ⟨H, rfl, h⟩
  | cons m l => exact kSome_ok h hr
theorem kEnd_ok {e : AExit} {k : Ans} {r : Ans} (h : kEnd e k = r) (hr : r ≠ .bad) : (e = .normal ∨ e = .ret) ∧ k = r := by
  cases e <;> first | exact ⟨.inl rfl, h⟩ | exact ⟨.inr rfl, h⟩ | exact bad_absurd h hr

/-- slots that may hold something -/
def InvK (P : Program) (kp : FuncId → Nat) (fn : FuncId) (tm : T AV) : Prop := ∀ t, Nat.land (Nat.shiftRight (kp fn) t) 1 = 0 → npOf P fn ≤ t → tm.get t = none

def RefK (P : Program) (kp : FuncId → Nat) (recK : RecK) (rec : Rec) : Prop := ∀ rd fn c tm H nx marks k r, r ≠ .bad → (rd = none → InvK P kp fn tm) → recK rd fn c tm H nx marks k = r →
  ∃ e st', rec rd fn c ⟨tm, H, nx, marks⟩ = some (e, st') ∧ (rd = none → InvK P kp fn st'.tm) ∧ k e st'.tm st'.H st'.nx st'.marks = r

/-- what stands in for calls answers as the oracle does -/
def StdOk (sd : Std) (orc : Orc) : Prop := ∀ f args H nx, (∃ v H' nx', orc f args H nx = some (v, H', nx') ∧ ∀ k u, (sd.l f).ap args H nx k (kAns (sd.o f args H nx) k u) = k v H' nx') ∨
  (orc f args H nx = none ∧ ∀ k u, (sd.l f).ap args H nx k (kAns (sd.o f args H nx) k u) = u) ∨ (∀ k u, (sd.l f).ap args H nx k (kAns (sd.o f args H nx) k u) = .bad)
theorem noStd_ok : StdOk noStd noOrc := fun _ _ _ _ => .inr (.inl ⟨rfl, fun _ _ => rfl⟩)

theorem tmOf_out : ∀ (l : List AV) (i : Nat) (t : T AV) (j : Nat), (j < i ∨ i + l.length ≤ j) → (tmOf l i t).get j = t.get j
  | [], _, _, _, _ => rfl
  | a :: l, i, t, j, h => by
    simp only [tmOf]
    simp only [List.length_cons] at h
    rw [tmOf_out l (i + 1) _ j (by omega), T.get_set_other _ _ (by omega)]

section
variable {P : Program} {kp : FuncId → Nat} {recK : RecK} {rec : Rec} {r : Ans}
theorem callC_ok (hX : RefK P kp recK rec) {orc : Orc} {f : FuncId} {args : List AV} {H : Heap} {nx : Nat} {k : KV} (ho : orc f args H nx = none) (hr : r ≠ .bad) (h : (callC P f).ap recK args H nx k = r) :
    ∃ v H' nx', callA P rec orc f args H nx = some (v, H', nx') ∧ k v H' nx' = r := by
  unfold callC at h
  split at h
  · exact bad_absurd h hr
  · rename_i fn hfn
    split at h
    · exact bad_absurd h hr
    · rename_i c hc
      obtain ⟨hb, h⟩ := kIf_ok h hr
      rw [tmOfF_eq] at h
      rw [Bool.and_eq_true] at hb
      have hinv : InvK P kp f (tmOf args 0 .e) := fun t _ ht => by
        have e : npOf P f = Nat.add fn.params.size fn.nfree := by unfold npOf; rw [hfn]
        have := Nat.le_of_ble_eq_true hb.2
        rw [len_eq] at this
        rw [e] at ht
        rw [tmOf_out args 0 .e t (.inr (by omega))]; rfl
      obtain ⟨e, st', hst, _, h⟩ := hX none f c _ H nx [] _ r hr (fun _ => hinv) h
      obtain ⟨he, h⟩ := kEnd_ok h hr
      obtain ⟨H', hu, h⟩ := kUnmark_ok h hr
      obtain ⟨vs, hvs, h⟩ := resF_ok hr h
      rw [resVF_eq] at h
      refine ⟨_, _, _, ?_, h⟩
      unfold callA
      rw [ho]
      simp only [hfn, hc, hb.1, hst]
      rcases he with rfl | rfl <;> simp only [hu, hvs]
theorem callK_ok (hX : RefK P kp recK rec) {sd : Std} {orc : Orc} (hS : StdOk sd orc) {f : FuncId} {args : List AV} {H : Heap} {nx : Nat} {k : KV} (hr : r ≠ .bad) (h : callK P recK sd f args H nx k = r) :
    ∃ v H' nx', callA P rec orc f args H nx = some (v, H', nx') ∧ k v H' nx' = r := by
  unfold callK at h
  rcases hS f args H nx with ⟨v, H', nx', h1, h2⟩ | ⟨h1, h2⟩ | h2
  · rw [h2] at h
    exact ⟨v, H', nx', by unfold callA; rw [h1], h⟩
  · rw [h2] at h
    exact callC_ok hX h1 hr h
  · rw [h2] at h
    exact bad_absurd h hr

theorem roundK_ok (hX : RefK P kp recK rec) {l : Nat} {args : List AV} {H : Heap} {nx : Nat} {k : KV} (hr : r ≠ .bad) (h : roundK P recK l args H nx k = r) :
    ∃ v H' nx', roundA P rec l args H nx = some (v, H', nx') ∧ k v H' nx' = r := by
  unfold roundK at h
  split at h
  · rename_i x fn tmps params assign body y hl
    split at h
    · rename_i tm hpo hbp
      obtain ⟨e, st, hst, _, h⟩ := hX (some l) fn assign tm H nx [] _ r hr (fun h => by cases h) h
      split at h
      · split at h
        · rename_i pd fn' tmps' params' assign' body' dfs' hl2
          obtain ⟨e2, st2, hst2, _, h⟩ := hX (some l) fn body _ _ _ _ _ r hr (fun h => by cases h) h
          split at h
          · rename_i hm
            split at h
            · rename_i a b fn2 tmps2 params2 assign2 body2 dfs2 hl3
              split at h
              · rename_i hj
                refine ⟨_, _, _, ?_, h⟩
                unfold roundA
                simp only [hl, hpo, hbp, hst, hl2, hst2, hm, hl3, hj]
              · rename_i j hj
                refine ⟨_, _, _, ?_, h⟩
                unfold roundA
                simp only [hl, hpo, hbp, hst, hl2, hst2, hm, hl3, hj]
            · exact bad_absurd h hr
          · exact bad_absurd h hr
        · exact bad_absurd h hr
      · exact bad_absurd h hr
    · exact bad_absurd h hr
  · exact bad_absurd h hr

theorem kOpR_ok (hX : RefK P kp recK rec) {sd : Std} {orc : Orc} (hS : StdOk sd orc) {o : Option OpR} {k : KV} (hr : r ≠ .bad) (h : kOpR P recK sd o k = r) :
    ∃ v H' nx', stepVal P rec orc o = some (v, H', nx') ∧ k v H' nx' = r := by
  obtain ⟨o, rfl, h⟩ := kSome_ok h hr
  cases o with
  | val v H nx => exact ⟨v, H, nx, rfl, h⟩
  | call f args H nx => exact callK_ok hX hS hr h
  | yield l args H nx => exact roundK_ok hX hr h
theorem kVal_ok {o : Option OpR} {k : KV} (h : kVal o k = r) (hr : r ≠ .bad) : ∃ v H' nx', o = some (.val v H' nx') ∧ k v H' nx' = r := by
  obtain ⟨o, rfl, h⟩ := kSome_ok h hr
  cases o with
  | val v H nx => exact ⟨v, H, nx, rfl, h⟩
  | call f args H nx => exact bad_absurd h hr
  | yield l args H nx => exact bad_absurd h hr
end
end Go.SK

/- The faster evaluator, third part: each operation. -/
namespace Go.SK
open Go

section
variable {P : Program} {kp : FuncId → Nat} {recK : RecK} {rec : Rec} {sd : Std} {orc : Orc} {D : Nat} {c : CEnv} {s : List AV} {tm : T AV} {H : Heap} {nx : Nat} {K : Kn} {r : Ans}

/-- an operation's answer -/
def Does (P : Program) (rec : Rec) (orc : Orc) (E : Env) (H : Heap) (nx : Nat) (K : Kn) (s : List AV) (r : Ans) (o : Op) : Prop :=
  ∃ v H' nx', stepVal P rec orc (aop P E H nx o) = some (v, H', nx') ∧ K (v :: s) H' nx' = r

theorem Does.val {E : Env} {o : Op} {v : AV} {H' : Heap} {nx' : Nat} (h : aop P E H nx o = some (.val v H' nx')) (hk : K (v :: s) H' nx' = r) : Does P rec orc E H nx K s r o :=
  ⟨v, H', nx', by rw [h]; rfl, hk⟩

theorem fGen_ok (hX : RefK P kp recK rec) (hS : StdOk sd orc) (hr : r ≠ .bad) {o : Op} (h : (fGen P sd D c o).ap recK tm K s H nx = r) : Does P rec orc ⟨locOf D c s, tm⟩ H nx K s r o :=
  kOpR_ok hX hS hr h

theorem fMove_ok (hL : LR D c s) (hr : r ≠ .bad) {x : Operand} (h : (fMove D c x).ap recK tm K s H nx = r) : Does P rec orc ⟨locOf D c s, tm⟩ H nx K s r (.move x) := by
  replace h := gOp_ok hL h hr; obtain ⟨v, hv, h⟩ := h
  exact .val (by simp only [aop, cop, opMove, hv] <;> rfl) h
theorem fPick_ok (hL : LR D c s) (hr : r ≠ .bad) {q a b : Operand} (h : (fPick D c q a b).ap recK tm K s H nx = r) : Does P rec orc ⟨locOf D c s, tm⟩ H nx K s r (.pick q a b) := by
  replace h := gOp_ok hL h hr; obtain ⟨v, hv, h⟩ := h
  replace h := kBool_ok h hr; obtain ⟨z, rfl, h⟩ := h
  cases z with
  | true =>
    replace h := gOp_ok hL h hr; obtain ⟨w, hw, h⟩ := h
    exact .val (by simp only [aop, cop, opPick, opMove, hv, hw] <;> rfl) h
  | false =>
    replace h := gOp_ok hL h hr; obtain ⟨w, hw, h⟩ := h
    exact .val (by simp only [aop, cop, opPick, opMove, hv, hw] <;> rfl) h
theorem fExtract_ok (hL : LR D c s) (hr : r ≠ .bad) {t : Operand} {i : Nat} (h : (fExtract D c t i).ap recK tm K s H nx = r) : Does P rec orc ⟨locOf D c s, tm⟩ H nx K s r (.extract t i) := by
  replace h := gOp_ok hL h hr; obtain ⟨v, hv, h⟩ := h
  replace h := kTup_ok h hr; obtain ⟨vs, rfl, h⟩ := h
  replace h := kNth_ok h hr; obtain ⟨w, hw, h⟩ := h
  exact .val (by simp only [aop, cop, opExtract, hv, hw] <;> rfl) h
theorem fNil_ok (hL : LR D c s) (hr : r ≠ .bad) {x : Operand} (h : (fNil D c x).ap recK tm K s H nx = r) : Does P rec orc ⟨locOf D c s, tm⟩ H nx K s r (.nilCheck x) := by
  replace h := gOp_ok hL h hr; obtain ⟨v, hv, h⟩ := h
  replace h := kNil_ok h hr; obtain ⟨hn, h⟩ := h
  rcases hn with ⟨b, o, rfl⟩ | ⟨f, x', y, rfl⟩ | ⟨l, x', y, rfl⟩ <;> exact .val (by simp only [aop, cop, opNil, hv] <;> rfl) h
theorem fUn_ok (hL : LR D c s) (hr : r ≠ .bad) {op : UnOp} {t : TypeId} {x : Operand} (h : (fUn D c op x).ap recK tm K s H nx = r) : Does P rec orc ⟨locOf D c s, tm⟩ H nx K s r (.unOp op t x) := by
  unfold fUn at h
  split at h
  · replace h := gOp_ok hL h hr; obtain ⟨v, hv, h⟩ := h
    replace h := kBool_ok h hr; obtain ⟨b, rfl, h⟩ := h
    cases b <;> exact .val (by simp only [aop, cop, opUn, hv, unA] <;> rfl) h
  · replace h := gOp_ok hL h hr; obtain ⟨v, hv, h⟩ := h
    replace h := kSome_ok h hr; obtain ⟨w, hw, h⟩ := h
    exact .val (by simp only [aop, cop, opUn, hv, hw] <;> rfl) h
theorem fLoad_ok (hX : RefK P kp recK rec) (hS : StdOk sd orc) (hL : LR D c s) (hr : r ≠ .bad) {t : TypeId} {a : Operand} (h : (fLoad P sd D c t a).ap recK tm K s H nx = r) : Does P rec orc ⟨locOf D c s, tm⟩ H nx K s r (.load t a) := by
  unfold fLoad at h
  split at h
  · rename_i ht
    replace h := gOp_ok hL h hr; obtain ⟨v, hv, h⟩ := h
    replace h := kPtr_ok h hr; obtain ⟨b, o, rfl, h⟩ := h
    replace h := kCells_ok h hr; obtain ⟨cs, e, ck, hc, h⟩ := h
    replace h := kNth_ok h hr; obtain ⟨w, hw, h⟩ := h
    exact .val (by simp only [aop, cop, cLoad, ht, load1, hv, getCells, hc, hw] <;> rfl) h
  · rename_i ht
    split at h
    · rename_i n hn
      replace h := gOp_ok hL h hr; obtain ⟨v, hv, h⟩ := h
      replace h := kPtr_ok h hr; obtain ⟨b, o, rfl, h⟩ := h
      replace h := kCells_ok h hr; obtain ⟨cs, e, ck, hc, h⟩ := h
      replace h := kPart_ok h hr; obtain ⟨w, hw, h⟩ := h
      exact .val (by simp only [aop, cop, cLoad, ht, hn, loadN, hv, getCells, hc, hw] <;> rfl) h
    · exact fGen_ok hX hS hr h
  · exact fGen_ok hX hS hr h
theorem fFieldAddr_ok (hX : RefK P kp recK rec) (hS : StdOk sd orc) (hL : LR D c s) (hr : r ≠ .bad) {t : TypeId} {x : Operand} {fd : Nat} (h : (fFieldAddr P sd D c t x fd).ap recK tm K s H nx = r) : Does P rec orc ⟨locOf D c s, tm⟩ H nx K s r (.fieldAddr t x fd) := by
  unfold fFieldAddr at h
  split at h
  · rename_i fs hfs
    split at h
    · rename_i off n hp
      replace h := gOp_ok hL h hr; obtain ⟨v, hv, h⟩ := h
      replace h := kPtr_ok h hr; obtain ⟨b, o, rfl, h⟩ := h
      rw [fnatR_eq] at h
      exact .val (by simp only [aop, cop, cFieldAddr, hfs, hp, faddr, hv] <;> rfl) h
    · exact fGen_ok hX hS hr h
  · exact fGen_ok hX hS hr h
theorem fIndexAddr_ok (hX : RefK P kp recK rec) (hS : StdOk sd orc) (hL : LR D c s) (hr : r ≠ .bad) {t : TypeId} {x i : Operand} (h : (fIndexAddr P sd D c t x i).ap recK tm K s H nx = r) : Does P rec orc ⟨locOf D c s, tm⟩ H nx K s r (.indexAddr t x i) := by
  unfold fIndexAddr at h
  split at h
  · rename_i e he
    split at h
    · rename_i size hsz
      replace h := gOp_ok hL h hr; obtain ⟨v, hv, h⟩ := h
      replace h := gOp_ok hL h hr; obtain ⟨w, hw, h⟩ := h
      replace h := kSlc_ok h hr; obtain ⟨b, o, n, cp, rfl, h⟩ := h
      replace h := kInt_ok h hr; obtain ⟨i', j, rfl, h⟩ := h
      replace h := kNat_ok h hr; obtain ⟨j, rfl, h⟩ := h
      replace h := kIf_ok h hr; obtain ⟨hlt, h⟩ := h
      rw [fnatR_eq] at h
      have hlt' : Nat.blt j n = true := hlt
      exact .val (by simp only [aop, cop, opIndexAddr, hv, hw, idxOp, he, hsz, hlt'] <;> rfl) h
    · exact fGen_ok hX hS hr h
  · rename_i m e he
    split at h
    · rename_i size hsz
      replace h := gOp_ok hL h hr; obtain ⟨v, hv, h⟩ := h
      replace h := gOp_ok hL h hr; obtain ⟨w, hw, h⟩ := h
      replace h := kPtr_ok h hr; obtain ⟨b, o, rfl, h⟩ := h
      replace h := kInt_ok h hr; obtain ⟨i', j, rfl, h⟩ := h
      replace h := kNat_ok h hr; obtain ⟨j, rfl, h⟩ := h
      replace h := kIf_ok h hr; obtain ⟨hlt, h⟩ := h
      rw [fnatR_eq] at h
      have hlt' : Nat.blt j m = true := hlt
      exact .val (by simp only [aop, cop, opIndexAddr, hv, hw, idxOp, he, hsz, hlt'] <;> rfl) h
    · exact fGen_ok hX hS hr h
  · exact fGen_ok hX hS hr h
theorem rw_cells {H : Heap} {b o : Nat} {cs cs' vs : List AV} {e : TypeId} {ck : CK} (hc : H.get b = some (.cells cs e ck)) (hk : ck ≠ .ro) (hs : splice o vs cs = some cs') : storeCs H b o vs = some (H.set b (some (.cells cs' e ck))) := by
  unfold storeCs
  rw [hc]
  cases ck with
  | ro => exact absurd rfl hk
  | own => simp only [hs]
  | str => simp only [hs]
theorem fStore_ok (hX : RefK P kp recK rec) (hS : StdOk sd orc) (hL : LR D c s) (hr : r ≠ .bad) {t : TypeId} {a x : Operand} (h : (fStore P sd D c t a x).ap recK tm K s H nx = r) : Does P rec orc ⟨locOf D c s, tm⟩ H nx K s r (.store t a x) := by
  unfold fStore at h
  split at h
  · rename_i hsz ht
    replace h := gOp_ok hL h hr; obtain ⟨p, hp, h⟩ := h
    replace h := gOp_ok hL h hr; obtain ⟨v, hv, h⟩ := h
    replace h := kPtr_ok h hr; obtain ⟨b, o, rfl, h⟩ := h
    replace h := kOne_ok h hr; obtain ⟨hcs, h⟩ := h
    replace h := kCells_ok h hr; obtain ⟨cs, e, ck, hc, h⟩ := h
    replace h := kRw_ok h hr; obtain ⟨hk, h⟩ := h
    replace h := kUpd_ok h hr; obtain ⟨cs', hu, h⟩ := h
    rw [hset_ok] at h
    have hb : Nat.beq (len [v]) 1 = true := rfl
    exact .val (by simp only [aop, cop, opStore, hp, hv, storeA, hsz, hcs, hb, rw_cells hc hk hu] <;> rfl) h
  · exact fGen_ok hX hS hr h
theorem fBox_ok (hX : RefK P kp recK rec) (hS : StdOk sd orc) (hL : LR D c s) (hr : r ≠ .bad) {t : TypeId} {x : Operand} (h : (fBox P sd D c t x).ap recK tm K s H nx = r) : Does P rec orc ⟨locOf D c s, tm⟩ H nx K s r (.box t x) := by
  unfold fBox at h
  split at h
  · rename_i n hsz
    replace h := gOp_ok hL h hr; obtain ⟨v, hv, h⟩ := h
    replace h := kSome_ok h hr; obtain ⟨cs, hcs, h⟩ := h
    rw [hset_ok, fnatR_eq] at h
    exact .val (by simp only [aop, cop, opBox, hv, hcs, hsz] <;> rfl) h
  · exact fGen_ok hX hS hr h
theorem fAlloc_ok (hX : RefK P kp recK rec) (hS : StdOk sd orc) (hr : r ≠ .bad) {t : TypeId} (h : (fAlloc P sd D c t).ap recK tm K s H nx = r) : Does P rec orc ⟨locOf D c s, tm⟩ H nx K s r (.alloc t) := by
  unfold fAlloc at h
  split at h
  · rename_i z hz
    have h' : hset H nx (some (.cells z t .own)) (fun H => fnatR (Nat.add nx 1) fun nx' => K (.ptr nx 0 :: s) H nx') = r := h
    rw [hset_ok, fnatR_eq] at h'
    exact .val (by simp only [aop, cop, opAlloc, hz] <;> rfl) h'
  · exact fGen_ok hX hS hr h
theorem fConv_ok (hL : LR D c s) (hr : r ≠ .bad) {a b : TypeId} {x : Operand} (h : (fConv P D c a b x).ap recK tm K s H nx = r) : Does P rec orc ⟨locOf D c s, tm⟩ H nx K s r (.convert a b x) := by
  unfold fConv at h
  split at h
  · rename_i u kd ha hb
    replace h := gOp_ok hL h hr; obtain ⟨v, hv, h⟩ := h
    replace h := kInt_ok h hr; obtain ⟨i, n, rfl, h⟩ := h
    replace h := fitR_ok h hr; obtain ⟨w, hw, h⟩ := h
    rw [rint_w] at hw
    cases hw
    exact .val (by simp only [aop, cop, opConv, hv, convOp, ha, hb, fint_eq] <;> rfl) h
  · replace h := gOp_ok hL h hr; obtain ⟨v, hv, h⟩ := h
    replace h := kVal_ok h hr; obtain ⟨w, H', nx', hw, h⟩ := h
    exact .val (by simp only [aop, cop, opConv, hv]; exact hw) h

/-! two operands -/
theorem bin_val {op : BinOp} {t t' : TypeId} {x y : Operand} {a b v : AV} (hx : ev ⟨locOf D c s, tm⟩ x = some a) (hy : ev ⟨locOf D c s, tm⟩ y = some b) (h : binA P H op t (isC x || isC y) a b = some v) (hk : K (v :: s) H nx = r) :
    Does P rec orc ⟨locOf D c s, tm⟩ H nx K s r (.binOp op t x y t') :=
  .val (by simp only [aop, cop, opBin, hx, hy, h] <;> rfl) hk
theorem fBinG_ok (hL : LR D c s) (hr : r ≠ .bad) {op : BinOp} {t t' : TypeId} {x y : Operand} (h : (fBinG P D c op t x y).ap recK tm K s H nx = r) : Does P rec orc ⟨locOf D c s, tm⟩ H nx K s r (.binOp op t x y t') := by
  replace h := gOp_ok hL h hr; obtain ⟨a, ha, h⟩ := h
  replace h := gOp_ok hL h hr; obtain ⟨b, hb, h⟩ := h
  replace h := kSome_ok h hr; obtain ⟨v, hv, h⟩ := h
  exact bin_val ha hb hv h
theorem binA_int {op : BinOp} {t : TypeId} {cst : Bool} {kd : IntKind} {a b : Int} {io : IOp} (hi : iOp kd op = some io) : binA P H op t cst (.int kd a) (.int kd b) = intOp op kd a b := by
  cases op <;> first | (simp only [binA, keq_self]; done) | (unfold iOp at hi; cases hi)
theorem fBinI_ok (hL : LR D c s) (hr : r ≠ .bad) {op : BinOp} {t t' : TypeId} {kd : IntKind} {x y : Operand} (h : (fBinI P D c op t kd x y).ap recK tm K s H nx = r) : Does P rec orc ⟨locOf D c s, tm⟩ H nx K s r (.binOp op t x y t') := by
  unfold fBinI at h
  split at h
  · rename_i io hio
    replace h := gOp_ok hL h hr; obtain ⟨a, ha, h⟩ := h
    replace h := gOp_ok hL h hr; obtain ⟨b, hb, h⟩ := h
    replace h := kInt_ok h hr; obtain ⟨k1, a, rfl, h⟩ := h
    replace h := kInt_ok h hr; obtain ⟨k2, b, rfl, h⟩ := h
    replace h := kIf_ok h hr; obtain ⟨e1, h⟩ := h
    replace h := kIf_ok h hr; obtain ⟨e2, h⟩ := h
    rw [isKind_eq] at e1 e2
    subst e1 e2
    replace h := iOp_ok hio h hr; obtain ⟨v, hv, h⟩ := h
    exact bin_val ha hb (by rw [binA_int hio]; exact hv) h
  · split at h
    · rename_i io hio
      replace h := gOp_ok hL h hr; obtain ⟨a, ha, h⟩ := h
      replace h := gOp_ok hL h hr; obtain ⟨b, hb, h⟩ := h
      replace h := kInt_ok h hr; obtain ⟨k1, a, rfl, h⟩ := h
      replace h := kInt_ok h hr; obtain ⟨k2, b, rfl, h⟩ := h
      replace h := kIf_ok h hr; obtain ⟨e1, h⟩ := h
      rw [isKind_eq] at e1
      subst e1
      replace h := sOp_ok (P := P) (H := H) (t := t) (cst := isC x || isC y) (k' := k2) hio h hr; obtain ⟨v, hv, h⟩ := h
      exact bin_val ha hb hv h
    · exact fBinG_ok hL hr h
theorem fBinS_ok (hL : LR D c s) (hr : r ≠ .bad) {op : BinOp} {t t' : TypeId} {x y : Operand} (h : (fBinS P D c op t x y).ap recK tm K s H nx = r) : Does P rec orc ⟨locOf D c s, tm⟩ H nx K s r (.binOp op t x y t') := by
  unfold fBinS at h
  split at h
  · replace h := gOp_ok hL h hr; obtain ⟨a, ha, h⟩ := h
    replace h := gOp_ok hL h hr; obtain ⟨b, hb, h⟩ := h
    replace h := kStr_ok h hr; obtain ⟨a, rfl, h⟩ := h
    replace h := kStr_ok h hr; obtain ⟨b, rfl, h⟩ := h
    rw [kLeq_eq] at h
    refine bin_val ha hb (v := .bool (leq a b)) rfl ?_
    cases hq : leq a b <;> rw [hq] at h <;> exact h
  · replace h := gOp_ok hL h hr; obtain ⟨a, ha, h⟩ := h
    replace h := gOp_ok hL h hr; obtain ⟨b, hb, h⟩ := h
    replace h := kStr_ok h hr; obtain ⟨a, rfl, h⟩ := h
    replace h := kStr_ok h hr; obtain ⟨b, rfl, h⟩ := h
    rw [kLeq_eq] at h
    refine bin_val ha hb (v := .bool (!leq a b)) rfl ?_
    cases hq : leq a b <;> rw [hq] at h <;> exact h
  · exact fBinG_ok hL hr h
theorem isNilC_ev {y : Operand} (h : isNilC y = true) (E : Env) : ev E y = some .nilp := by
  unfold isNilC at h
  split at h
  · rename_i v
    split at h
    · rename_i hv; exact hv
    · cases h
  · cases h
theorem eqA_nil {t u : TypeId} (hu : P.underlying t = some (.pointer u)) (hg : P.eqGuardType P.depth t = false) (cst : Bool) : eqA P H t cst .nilp .nilp = some true ∧ ∀ b o, eqA P H t cst (.ptr b o) .nilp = some false := by
  constructor
  · simp only [eqA, hg, eqv, hu]
  · intro b o; simp only [eqA, hg, eqv, hu]
theorem fBinP_ok (hL : LR D c s) (hr : r ≠ .bad) {op : BinOp} {t t' u : TypeId} (hu : P.underlying t = some (.pointer u)) {x y : Operand} (h : (fBinP P D c op t x y).ap recK tm K s H nx = r) : Does P rec orc ⟨locOf D c s, tm⟩ H nx K s r (.binOp op t x y t') := by
  unfold fBinP at h
  split at h
  · rename_i hg hn
    have hy := isNilC_ev hn ⟨locOf D c s, tm⟩
    obtain ⟨n1, n2⟩ := eqA_nil (H := H) hu hg (isC x || isC y)
    split at h
    · replace h := gOp_ok hL h hr; obtain ⟨a, ha, h⟩ := h
      replace h := kPn_ok h hr; rcases h with ⟨rfl, h⟩ | ⟨b, o, rfl, h⟩
      · exact bin_val ha hy (by simp only [binA, binEq, n1]) h
      · exact bin_val ha hy (by simp only [binA, binEq, n2]) h
    · replace h := gOp_ok hL h hr; obtain ⟨a, ha, h⟩ := h
      replace h := kPn_ok h hr; rcases h with ⟨rfl, h⟩ | ⟨b, o, rfl, h⟩
      · exact bin_val ha hy (by simp only [binA, binEq, n1] <;> rfl) h
      · exact bin_val ha hy (by simp only [binA, binEq, n2] <;> rfl) h
    · exact fBinG_ok hL hr h
  · exact fBinG_ok hL hr h
theorem fBin_ok (hL : LR D c s) (hr : r ≠ .bad) {op : BinOp} {t t' : TypeId} {x y : Operand} (h : (fBin P D c op t x y).ap recK tm K s H nx = r) : Does P rec orc ⟨locOf D c s, tm⟩ H nx K s r (.binOp op t x y t') := by
  unfold fBin at h
  split at h
  · exact fBinI_ok hL hr h
  · exact fBinS_ok hL hr h
  · rename_i hu; exact fBinP_ok hL hr hu h
  · exact fBinG_ok hL hr h
end
end Go.SK

/- The faster evaluator, fourth part: append, slices, calls. -/
namespace Go.SK
open Go

section
variable {P : Program} {kp : FuncId → Nat} {recK : RecK} {rec : Rec} {sd : Std} {orc : Orc} {D : Nat} {c : CEnv} {s : List AV} {tm : T AV} {H : Heap} {nx : Nat} {K : Kn} {r : Ans}

theorem evs1 {E : Env} {x : Operand} {a : AV} (h : ev E x = some a) : evs E [x] = some [a] := by simp only [evs, h]
theorem evs2 {E : Env} {x y : Operand} {a b : AV} (h : ev E x = some a) (k : ev E y = some b) : evs E [x, y] = some [a, b] := by simp only [evs, h, k]

theorem fLen_ok (hX : RefK P kp recK rec) (hS : StdOk sd orc) (hL : LR D c s) (hr : r ≠ .bad) {q : Call} {t : TypeId} {ts : List TypeId} {x : Operand} (hq : q.callee = .builtin .len) (hts : q.argTypes.toList = t :: ts) (hxs : q.args.toList = [x])
    (h : (fLen P sd D c q t x).ap recK tm K s H nx = r) : Does P rec orc ⟨locOf D c s, tm⟩ H nx K s r (.call q) := by
  unfold fLen at h
  split at h
  · rename_i e he
    replace h := gOp_ok hL h hr; obtain ⟨v, hv, h⟩ := h
    replace h := kLen_ok h hr; rcases h with ⟨rfl, h⟩ | ⟨b, o, n, cp, rfl, h⟩
    · exact .val (by simp only [aop, cop, opCall, hq, hxs, hts, evs1 hv, builtinOp, he, goI] <;> rfl) h
    · exact .val (by simp only [aop, cop, opCall, hq, hxs, hts, evs1 hv, builtinOp, he, goI] <;> rfl) h
  · rename_i he
    replace h := gOp_ok hL h hr; obtain ⟨v, hv, h⟩ := h
    replace h := kStr_ok h hr; obtain ⟨l, rfl, h⟩ := h
    rw [kLenL_eq, fnatR_eq] at h
    exact .val (by simp only [aop, cop, opCall, hq, hxs, hts, evs1 hv, builtinOp, he, goI, fnat_eq] <;> rfl) h
  · exact fGen_ok hX hS hr h

theorem kGrown_ok {e : TypeId} {k : CK} {row : List AV} {need : Nat} {K : KV} (h : kGrown H nx e k row need K = r) : K (.slc nx 0 need none) (H.set nx (some (.cells row e k))) (Nat.add nx 1) = r := by
  unfold kGrown at h; rw [hset_ok, fnatR_eq] at h; exact h
theorem kSmall_ok {need bytes : Nat} {k : Ans} (h : kSmall need bytes k = r) (hr : r ≠ .bad) : small need bytes = true ∧ k = r := by
  obtain ⟨h1, h⟩ := kIf_ok h hr
  obtain ⟨h2, h⟩ := kIf_ok h hr
  exact ⟨by simp only [small, h1, h2, Bool.and_self], h⟩
theorem kAppS_ok {e size b o l need : Nat} {cp : Option Nat} {new : List AV} {K : KV} (h : kAppS H nx e size b o l cp new need K = r) (hr : r ≠ .bad) :
    ∃ v H' nx', appS H nx e size b o l cp new need = some (.val v H' nx') ∧ K v H' nx' = r := by
  replace h := kCells_ok h hr; obtain ⟨cs, e', ck, hc, h⟩ := h
  cases cp with
  | none =>
    have h' : kRw ck (kIf (Nat.beq e e') (kDrop o cs fun r => kTake (Nat.mul l size) r fun old => kCons old new fun row => hset H b none fun H => kGrown H nx e ck row need K) .bad) = r := h
    obtain ⟨h1, h2⟩ := kRw_ok h' hr
    obtain ⟨h3, h4⟩ := kIf_ok h2 hr
    obtain ⟨old, h5, h6⟩ := kPart_ok h4 hr
    rw [kCons_eq, hset_ok] at h6
    refine ⟨_, _, _, ?_, kGrown_ok h6⟩
    unfold appS
    simp only [hc]
    cases ck with
    | ro => exact absurd rfl h1
    | own => simp only [h3, h5]; rfl
    | str => simp only [h3, h5]; rfl
  | some cp =>
    have h' : kIf (Nat.ble need cp) (kRw ck (kSplice new (Nat.add o (Nat.mul l size)) cs fun cs => hset H b (some (.cells cs e' ck)) fun H => K (.slc b o need (some cp)) H nx))
      (kDrop o cs fun r => kTake (Nat.mul l size) r fun old => kCons old new fun row => kGrown H nx e .own row need K) = r := h
    rw [kIf_eq] at h'
    split at h'
    · rename_i hb
      obtain ⟨h1, h2⟩ := kRw_ok h' hr
      obtain ⟨cs', h3, h4⟩ := kSplice_ok h2 hr
      rw [hset_ok] at h4
      refine ⟨_, _, _, ?_, h4⟩
      unfold appS
      simp only [hb, rw_cells hc h1 h3]
    · rename_i hb
      simp only [Bool.not_eq_true] at hb
      obtain ⟨old, h5, h6⟩ := kPart_ok h' hr
      rw [kCons_eq] at h6
      refine ⟨_, _, _, ?_, kGrown_ok h6⟩
      unfold appS
      simp only [hb, cellsOfS, getCells, hc, h5]; rfl
theorem kAppTo_ok {e size bytes : Nat} {a : AV} {n : Nat} {new : List AV} {K : KV} (h : kAppTo H nx e size bytes a n new K = r) (hr : r ≠ .bad) :
    ∃ v H' nx', appTo H nx e size bytes a n new = some (.val v H' nx') ∧ K v H' nx' = r := by
  unfold kAppTo at h
  rw [kIf_eq] at h
  split at h
  · rename_i hb
    replace h := kSl_ok h hr; rcases h with ⟨rfl, h⟩ | ⟨b, o, m, cp, rfl, h⟩
    · exact ⟨_, _, _, by simp only [appTo, hb], h⟩
    · exact ⟨_, _, _, by simp only [appTo, hb], h⟩
  · rename_i hb
    simp only [Bool.not_eq_true] at hb
    replace h := kSl_ok h hr; rcases h with ⟨rfl, h⟩ | ⟨b, o, m, cp, rfl, h⟩
    · obtain ⟨h1, h⟩ := kSmall_ok h hr
      exact ⟨_, _, _, by simp only [appTo, hb, h1]; rfl, kGrown_ok h⟩
    · rw [fnatR_eq] at h
      obtain ⟨h1, h⟩ := kSmall_ok h hr
      obtain ⟨v, H', nx', h2, h⟩ := kAppS_ok h hr
      exact ⟨v, H', nx', by simp only [appTo, hb, fnat_eq, h1]; exact h2, h⟩
theorem kNew_ok {isInt : Bool} {size : Nat} {z : List AV} {x : AV} {k : Nat → List AV → Ans} (h : kNew H isInt size z x k = r) (hr : r ≠ .bad) :
    ∃ n new, appN isInt x = some n ∧ appC H isInt size n z x = some new ∧ k n new = r := by
  unfold kNew at h
  rw [kIf_eq] at h
  split at h
  · rename_i hb
    subst hb
    replace h := kInt_ok h hr; obtain ⟨i, m, rfl, h⟩ := h
    replace h := kNat_ok h hr; obtain ⟨m, rfl, h⟩ := h
    rw [fnatR_eq, kReps_eq] at h
    exact ⟨m, _, rfl, rfl, h⟩
  · rename_i hb
    simp only [Bool.not_eq_true] at hb
    subst hb
    replace h := kSls_ok h hr; rcases h with ⟨rfl, h⟩ | ⟨b, o, n, cp, rfl, h⟩ | ⟨l, rfl, h⟩
    · exact ⟨0, [], rfl, rfl, h⟩
    · rw [fnatR_eq] at h
      replace h := kCells_ok h hr; obtain ⟨cs, e, ck, hc, h⟩ := h
      replace h := kPart_ok h hr; obtain ⟨w, hw, h⟩ := h
      exact ⟨n, w, rfl, by simp only [appC, cellsOfS, getCells, hc, hw], h⟩
    · replace h := kIf_ok h hr; obtain ⟨h1, h⟩ := h
      rw [kLenL_eq, fnatR_eq, kStrCells_eq] at h
      exact ⟨len l, _, rfl, by simp only [appC, cellsOfS, h1, takeN_len, Option.map_some], h⟩
theorem fAppend_ok (hL : LR D c s) (hr : r ≠ .bad) {q : Call} {t : TypeId} {ts : List TypeId} {a x : Operand} {f : FS} (hq : q.callee = .builtin .append) (hts : q.argTypes.toList = t :: ts) (hxs : q.args.toList = [a, x])
    (hf : fAppend P D c t ts a x = some f) (h : f.ap recK tm K s H nx = r) : Does P rec orc ⟨locOf D c s, tm⟩ H nx K s r (.call q) := by
  unfold fAppend at hf
  split at hf
  · rename_i e he
    split at hf
    · rename_i size bytes z isInt h1 h2 h3 h4
      split at hf
      · rename_i h5
        cases hf
        replace h := gOp_ok hL h hr; obtain ⟨va, hva, h⟩ := h
        replace h := gOp_ok hL h hr; obtain ⟨vx, hvx, h⟩ := h
        obtain ⟨n, new, h6, h7, h⟩ := kNew_ok h hr
        obtain ⟨h8, h⟩ := kSmall_ok h hr
        obtain ⟨v, H', nx', h9, h⟩ := kAppTo_ok h hr
        refine .val ?_ h
        simp only [aop, cop, opCall, hq, hxs, hts, evs2 hva hvx, builtinOp, appendOp, he, h1, h2, h3, h4, h5, h6, fnat_eq, h7, h8]
        exact h9
      · cases hf
    · cases hf
  · cases hf

theorem fCall_ok (hX : RefK P kp recK rec) (hS : StdOk sd orc) (hL : LR D c s) (hr : r ≠ .bad) {q : Call} (h : (fCall P sd D c q).ap recK tm K s H nx = r) : Does P rec orc ⟨locOf D c s, tm⟩ H nx K s r (.call q) := by
  unfold fCall at h
  split at h
  · rename_i fid hq
    obtain ⟨args, ha, h⟩ := gOps_ok hL hr h
    obtain ⟨v, H', nx', h1, h⟩ := callK_ok hX hS hr h
    refine ⟨v, H', nx', ?_, h⟩
    have : aop P ⟨locOf D c s, tm⟩ H nx (.call q) = some (.call fid args H nx) := by
      simp only [aop, cop, opCall, hq, ha, ev, cev, List.nil_append, List.append_nil]
    rw [this]
    exact h1
  · rename_i b hq
    split at h
    · rename_i t ts x h1 h2
      exact fLen_ok hX hS hL hr hq h1 h2 h
    · rename_i t ts a x h1 h2
      split at h
      · rename_i f hf; exact fAppend_ok hL hr hq h1 h2 hf h
      · exact fGen_ok hX hS hr h
    · obtain ⟨args, ha, h⟩ := gOps_ok hL hr h
      obtain ⟨v, H', nx', h1, h⟩ := kVal_ok h hr
      exact .val (by simp only [aop, cop, opCall, hq, ha]; exact h1) h
  · exact fGen_ok hX hS hr h

theorem gBnd_ok (hL : LR D c s) (hr : r ≠ .bad) {x : Option Operand} {y z : Nat} {k : Nat → Ans} (h : gBnd D c x tm s y z k = r) :
    ∃ v n, evo ⟨locOf D c s, tm⟩ x = some v ∧ ((v = none → n = z) ∧ ∀ w, v = some w → bnd w y = some n) ∧ k n = r := by
  cases x with
  | none => exact ⟨none, z, rfl, ⟨(fun _ => rfl), (fun _ h => by cases h)⟩, h⟩
  | some x =>
    have h' : ((gOp D c x).ap tm s fun v => kInt v fun _ n => kNat n fun n => kIf (Nat.ble n y) (k n) .bad) = r := h
    obtain ⟨v, hv, h1⟩ := gOp_ok hL h' hr
    obtain ⟨i, n, e1, h2⟩ := kInt_ok h1 hr
    obtain ⟨m, e2, h3⟩ := kNat_ok h2 hr
    obtain ⟨hb, h4⟩ := kIf_ok h3 hr
    subst e2 e1
    exact ⟨some (.int i (.ofNat m)), m, by simp only [evo, hv], ⟨(fun h => by cases h), (fun w hw => by cases hw; simp only [bnd, hb])⟩, h4⟩
theorem boundsF {len cap nh nl : Nat} {vl vh : Option AV} (h2 : (vh = none → nh = len) ∧ ∀ w, vh = some w → bnd w cap = some nh) (h5 : (vl = none → nl = 0) ∧ ∀ w, vl = some w → bnd w nh = some nl) :
    bounds len cap vl vh none = some (nl, nh, cap) := by
  unfold bounds
  cases vh with
  | none =>
    obtain rfl := h2.1 rfl
    cases vl with
    | none => obtain rfl := h5.1 rfl; rfl
    | some w => simp only [h5.2 w rfl]
  | some v =>
    simp only [h2.2 v rfl]
    cases vl with
    | none => obtain rfl := h5.1 rfl; rfl
    | some w => simp only [h5.2 w rfl]
theorem evo_none {E : Env} : evo E none = some none := rfl
theorem fSlice_ok (hX : RefK P kp recK rec) (hS : StdOk sd orc) (hL : LR D c s) (hr : r ≠ .bad) {t : TypeId} {x : Operand} {lo hi mx : Option Operand} (h : (fSlice P sd D c t x lo hi mx).ap recK tm K s H nx = r) : Does P rec orc ⟨locOf D c s, tm⟩ H nx K s r (.slice t x lo hi mx) := by
  unfold fSlice at h
  split at h
  · rename_i e he
    split at h
    · rename_i size hsz
      replace h := gOp_ok hL h hr; obtain ⟨a, ha, h⟩ := h
      replace h := kSl_ok h hr; rcases h with ⟨rfl, h⟩ | ⟨b, o, n, q, rfl, h⟩
      · obtain ⟨vh, nh, h1, h2, h⟩ := gBnd_ok hL hr h
        obtain ⟨vl, nl, h3, h4, h⟩ := gBnd_ok hL hr h
        refine .val ?_ h
        simp only [aop, cop, opSlice, ha, h1, h3, evo_none, sliceOp, he, hsz, boundsF h2 h4]
      · cases q with
        | none =>
          have h' : (gBnd D c hi tm s n n fun h => gBnd D c lo tm s h 0 fun l => kCells H b fun _ e' _ => kIf (Nat.beq e e') (kIf (Nat.ble (Nat.succ l) h || Nat.beq l 0)
            (fnatR (Nat.add o (Nat.mul l size)) fun o => fnatR (Nat.sub h l) fun n => K (.slc b o n none :: s) H nx) .bad) .bad) = r := h
          obtain ⟨vh, nh, h1, h2, h3⟩ := gBnd_ok hL hr h'
          obtain ⟨vl, nl, h4, h5, h6⟩ := gBnd_ok hL hr h3
          obtain ⟨cs, e', ck, h7, h8⟩ := kCells_ok h6 hr
          obtain ⟨h9, h10⟩ := kIf_ok h8 hr
          obtain ⟨h11, h12⟩ := kIf_ok h10 hr
          rw [fnatR_eq, fnatR_eq] at h12
          refine .val ?_ h12
          have h13 : ((Nat.blt nl nh || Nat.beq nl 0) && Nat.beq e e') = true := by rw [h9]; rw [show Nat.blt nl nh = Nat.ble (Nat.succ nl) nh from rfl, h11]; rfl
          simp only [aop, cop, opSlice, ha, h1, h4, evo_none, sliceOp, he, hsz, boundsF h2 h5, h7, h13]
        | some q =>
          have h' : (gBnd D c hi tm s q n fun h => gBnd D c lo tm s h 0 fun l => kIf (Nat.beq q l) (fnatR (Nat.sub h l) fun n => fnatR (Nat.sub q l) fun q => K (.slc b o n (some q) :: s) H nx)
            (fnatR (Nat.add o (Nat.mul l size)) fun o => fnatR (Nat.sub h l) fun n => fnatR (Nat.sub q l) fun q => K (.slc b o n (some q) :: s) H nx)) = r := h
          obtain ⟨vh, nh, h1, h2, h3⟩ := gBnd_ok hL hr h'
          obtain ⟨vl, nl, h4, h5, h6⟩ := gBnd_ok hL hr h3
          rw [kIf_eq] at h6
          simp only [fnatR_eq] at h6
          split at h6
          · rename_i hb
            refine .val ?_ h6
            simp only [aop, cop, opSlice, ha, h1, h4, evo_none, sliceOp, he, hsz, boundsF h2 h5, hb]
          · rename_i hb
            simp only [Bool.not_eq_true] at hb
            refine .val ?_ h6
            simp only [aop, cop, opSlice, ha, h1, h4, evo_none, sliceOp, he, hsz, boundsF h2 h5, hb]
    · exact fGen_ok hX hS hr h
  · exact fGen_ok hX hS hr h

theorem kParts_ok (hL : LR D c s) (hr : r ≠ .bad) {size : Nat} : ∀ {l : List (Nat × Operand)} {cs : List AV} {k : List AV → Ans}, kParts D c size l tm s cs k = r →
    ∃ cs', fillP (fun i => some (Nat.mul i size, size)) ⟨locOf D c s, tm⟩ l cs = some cs' ∧ k cs' = r
  | [], cs, k, h => ⟨cs, rfl, h⟩
  | (i, x) :: l, cs, k, h => by
    have h' : ((gOp D c x).ap tm s fun v => kIf (Nat.beq size 1) (kOne v (kUpd v (Nat.mul i 1) cs fun cs => kParts D c size l tm s cs k))
      (kAgg v fun vs => kIf (Nat.beq (len vs) size) (kSplice vs (Nat.mul i size) cs fun cs => kParts D c size l tm s cs k) .bad)) = r := h
    obtain ⟨v, hv, h1⟩ := gOp_ok hL h' hr
    rw [kIf_eq] at h1
    split at h1
    · rename_i hb
      have hb' := Nat.eq_of_beq_eq_true hb
      obtain ⟨h2, h3⟩ := kOne_ok h1 hr
      obtain ⟨cs1, h4, h5⟩ := kUpd_ok h3 hr
      obtain ⟨cs2, h6, h7⟩ := kParts_ok hL hr h5
      refine ⟨cs2, ?_, h7⟩
      have hl : Nat.beq (len [v]) size = true := by rw [hb']; rfl
      subst hb'
      simp only [fillP, hv, h2, hl, h4, h6]
    · obtain ⟨vs, e1, h2⟩ := kAgg_ok h1 hr
      obtain ⟨h3, h4⟩ := kIf_ok h2 hr
      obtain ⟨cs1, h5, h6⟩ := kSplice_ok h4 hr
      obtain ⟨cs2, h7, h8⟩ := kParts_ok hL hr h6
      subst e1
      exact ⟨cs2, by simp only [fillP, hv, AV.cells, h3, h5, h7], h8⟩
theorem fBuildSlice_ok (hX : RefK P kp recK rec) (hS : StdOk sd orc) (hL : LR D c s) (hr : r ≠ .bad) {t : TypeId} {n : Nat} {parts : Array (Nat × Operand)} (h : (fBuildSlice P sd D c t n parts.toList).ap recK tm K s H nx = r) : Does P rec orc ⟨locOf D c s, tm⟩ H nx K s r (.buildSlice t n parts) := by
  have hp : parts.toList.toArray = parts := by simp
  unfold fBuildSlice at h
  split at h
  · rename_i e he
    split at h
    · rename_i size z h1 h2
      split at h
      · rename_i h3
        have h' : (kReps z n fun row => kParts D c size parts.toList tm s row fun row => hset H nx (some (.cells row e .own)) fun H => fnatR (Nat.add nx 1) fun nx' => K (.slc nx 0 n (some n) :: s) H nx') = r := h
        rw [kReps_eq] at h'
        obtain ⟨cs', h4, h5⟩ := kParts_ok hL hr h'
        rw [hset_ok, fnatR_eq] at h5
        refine .val ?_ h5
        simp only [aop, cop, opBuildSlice, he, h1, h2, h3, h4]; rfl
      · rw [hp] at h; exact fGen_ok hX hS hr h
    · rw [hp] at h; exact fGen_ok hX hS hr h
  · rw [hp] at h; exact fGen_ok hX hS hr h

theorem fop_ok (hX : RefK P kp recK rec) (hS : StdOk sd orc) (hL : LR D c s) (hr : r ≠ .bad) {o : Op} (h : (fop P sd D c o).ap recK tm K s H nx = r) : Does P rec orc ⟨locOf D c s, tm⟩ H nx K s r o := by
  unfold fop at h
  split at h
  · exact fMove_ok hL hr h
  · obtain ⟨v, H', nx', h1, h2⟩ := fMove_ok (P := P) (rec := rec) (orc := orc) hL hr h
    exact ⟨v, H', nx', h1, h2⟩
  · exact fPick_ok hL hr h
  · exact fLoad_ok hX hS hL hr h
  · exact fStore_ok hX hS hL hr h
  · exact fFieldAddr_ok hX hS hL hr h
  · exact fIndexAddr_ok hX hS hL hr h
  · exact fExtract_ok hL hr h
  · exact fNil_ok hL hr h
  · exact fBin_ok hL hr h
  · exact fUn_ok hL hr h
  · exact fConv_ok hL hr h
  · exact fBox_ok hX hS hL hr h
  · exact fAlloc_ok hX hS hr h
  · exact fCall_ok hX hS hL hr h
  · exact fSlice_ok hX hS hL hr h
  · exact fBuildSlice_ok hX hS hL hr h
  · exact fGen_ok hX hS hr h
end
end Go.SK

