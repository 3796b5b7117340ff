/- Operations, regions in order and calls of the evaluator. Conditions: none. -/
import Derived.Test.YtlnhefoegllpmaaGreatDoorSdC
import Derived.Test.YtlnhefoegllpmaaGreatDoorEvA
import Derived.RangeFuncLeaves
import Derived.RangeFuncRecord
import Derived.OrdersIn
/- One operation, fourteenth part: maps. -/
namespace Go.SK
open Go

/-- equal keys -/
theorem keyEq_ok {σ : Sg} {a b : AV} {u v : Value} {r : Bool} (h : keyEq a b = some r) (hu : VR σ a u) (hv : VR σ b v) : ∀ d, keyOkD d a = true → Instr.sameNow d u v = some r := by
  intro d hd
  unfold keyEq at h
  split at h
  · split at h
    · rename_i k x k' y hk
      cases h
      have := keq_true hk
      subst this
      simp only [VR] at hu hv
      subst hu hv
      cases d <;> simp [keyOkD] at hd
      simp [Instr.sameNow, ieq_eq]
    · cases h
  · rename_i x y
    cases h
    simp only [VR] at hu hv
    obtain ⟨s, rfl, rfl⟩ := hu
    obtain ⟨t, rfl, rfl⟩ := hv
    cases d <;> simp [keyOkD] at hd
    simp only [Instr.sameNow, leq_map, beq_toListBytes, ByteArray.toList_eq]
  · cases h

theorem keyEq_true {a b : AV} (h : keyEq a b = some true) : a = b := by
  unfold keyEq at h
  split at h
  · split at h
    · rename_i k x k' y hk
      have := keq_true hk
      subst this
      rw [ieq_eq] at h
      simp at h
      rw [h]
    · cases h
  · rename_i x y
    have : leq x y = true := by simpa using h
    rw [leq_true this]
  · cases h
  where leq_true : ∀ {x y : List Nat}, leq x y = true → x = y
  | [], [], _ => rfl
  | [], _ :: _, h => by simp [leq] at h
  | _ :: _, [], h => by simp [leq] at h
  | a :: x, b :: y, h => by
    simp only [leq, Bool.and_eq_true] at h
    rw [Nat.eq_of_beq_eq_true h.1, leq_true h.2]
theorem leq_self : ∀ x : List Nat, leq x x = true
  | [] => rfl
  | a :: x => by simp [leq, leq_self x]
theorem keyEq_false {a b : AV} (h : keyEq a b = some false) : a ≠ b := by
  intro e
  subst e
  unfold keyEq at h
  split at h
  · rename_i k x
    have : keq k k = true := by rw [keq_eq]; simp
    rw [this] at h
    rw [ieq_eq] at h
    simp at h
  · rename_i x
    rw [leq_self x] at h; cases h
  · cases h

section
variable {P : Program} {w0 : World} {σ : Sg} {nx : Nat} {H : Heap} {w : World} {E : Env} {ρ : Operand → Value} {o : Oper}

/-- a key of its type passes, and is looked for by its bits -/
theorem checkKey_ok {t : TypeId} {d : TypeDesc} {k : AV} {u : Value} (ht : P.underlying t = some d) (hk : keyOkD d k = true) (hu : VR σ k u) (e : Bool) (n : Nat) : (Instr.checkKey e (n + 1) t u).run P w = .ok () w := by
  unfold keyOkD at hk
  split at hk
  · simp only [VR] at hu
    subst hu
    simp only [Instr.checkKey, Sem.run_bind, run_und ht, Result.andThen_ok, Sem.run_pure]
  · simp only [VR] at hu
    obtain ⟨s, rfl, _⟩ := hu
    simp only [Instr.checkKey, Sem.run_bind, run_und ht, Result.andThen_ok, Sem.run_pure]
  · cases hk

/-- a key that is found is the key that was looked for -/
def keyLit : AV → Prop
  | .int _ _ | .str _ => True
  | _ => False
theorem keyLit_of {d : TypeDesc} {k : AV} (h : keyOkD d k = true) : keyLit k := by
  unfold keyOkD at h; split at h <;> first | trivial | cases h
theorem same_def {d' : TypeDesc} {k k2 : AV} (h1 : keyOkD d' k = true) (h2 : keyOkD d' k2 = true) : ∃ q, keyEq k k2 = some q := by
  cases d' <;> cases k <;> simp [keyOkD] at h1 <;> cases k2 <;> simp [keyOkD] at h2
  · have := (keq_true h1).trans (keq_true h2).symm
    subst this
    exact ⟨_, by simp only [keyEq, keq_eq, decide_true]; rfl⟩
  · exact ⟨_, rfl⟩
theorem keyOk_of_false {d : TypeDesc} {k k2 : AV} (h1 : keyOkD d k = true) (h : keyEq k k2 = some false) : keyOkD d k2 = true := by
  unfold keyEq at h
  split at h
  · split at h
    · rename_i hk
      have := keq_true hk
      subst this
      cases d <;> simp [keyOkD] at h1 ⊢
      exact h1
    · cases h
  · cases d <;> simp [keyOkD] at h1 ⊢
  · cases h

theorem same_key {d : TypeDesc} {k k2 : AV} {u v : Value} (hk : keyOkD d k = true) (hl : keyLit k2) (hu : VR σ k u) (hv : VR σ k2 v) (h : Instr.sameNow d u v = some true) : k = k2 := by
  unfold keyOkD at hk
  split at hk
  · rename_i kk x k'
    simp only [VR] at hu
    subst hu
    cases k2 <;> simp only [keyLit] at hl
    · rename_i kk2 y
      simp only [VR] at hv
      subst hv
      simp only [Instr.sameNow] at h
      split at h
      · rename_i e
        subst e
        simp at h
        rw [h]
      · cases h
    · simp only [VR] at hv
      obtain ⟨t, rfl, _⟩ := hv
      simp [Instr.sameNow] at h
  · simp only [VR] at hu
    obtain ⟨s, rfl, rfl⟩ := hu
    cases k2 <;> simp only [keyLit] at hl
    · simp only [VR] at hv
      subst hv
      simp [Instr.sameNow] at h
    · simp only [VR] at hv
      obtain ⟨t, rfl, rfl⟩ := hv
      simp only [Instr.sameNow, Option.some.injEq, beq_toListBytes, ByteArray.toList_eq, beq_iff_eq] at h
      rw [h]
  · cases hk

theorem EsR.split {σ : Sg} : ∀ {a b : List (AV × AV)} {ds : List MapEntry}, EsR σ (a ++ b) ds → ∃ d1 d2, ds = d1 ++ d2 ∧ EsR σ a d1 ∧ EsR σ b d2
  | [], b, ds, h => ⟨[], ds, rfl, rfl, h⟩
  | (x, y) :: a, b, ds, h => by
    simp only [List.cons_append, EsR] at h
    obtain ⟨e, r, rfl, h1, h2, h3⟩ := h
    obtain ⟨d1, d2, rfl, h4, h5⟩ := EsR.split h3
    exact ⟨e :: d1, d2, rfl, by simp only [EsR]; exact ⟨e, d1, rfl, h1, h2, h4⟩, h5⟩
theorem EsR.join {σ : Sg} : ∀ {a b : List (AV × AV)} {d1 d2 : List MapEntry}, EsR σ a d1 → EsR σ b d2 → EsR σ (a ++ b) (d1 ++ d2)
  | [], b, d1, d2, h, k => by simp only [EsR] at h; subst h; exact k
  | (x, y) :: a, b, d1, d2, h, k => by
    simp only [EsR] at h
    obtain ⟨e, r, rfl, h1, h2, h3⟩ := h
    simp only [List.cons_append, EsR]
    exact ⟨e, _, rfl, h1, h2, EsR.join h3 k⟩
theorem EsR.mem {σ : Sg} : ∀ {a : List (AV × AV)} {ds : List MapEntry}, EsR σ a ds → ∀ e ∈ ds, ∃ p ∈ a, VR σ p.1 e.key ∧ VR σ p.2 e.val
  | [], ds, h, e, he => by simp only [EsR] at h; subst h; cases he
  | (x, y) :: a, ds, h, e, he => by
    simp only [EsR] at h
    obtain ⟨e', r, rfl, h1, h2, h3⟩ := h
    cases he with
    | head => exact ⟨(x, y), by simp, h1, h2⟩
    | tail _ he =>
      obtain ⟨p, hp, q⟩ := EsR.mem h3 e he
      exact ⟨p, by simp [hp], q⟩

theorem findE_cases {k : AV} : ∀ {es : List (AV × AV)} {r : Option AV}, findE k es = some r →
    (match r with
      | none => ∀ p ∈ es, keyEq k p.1 = some false
      | some v => ∃ a b, es = a ++ (k, v) :: b ∧ ∀ p ∈ a, keyEq k p.1 = some false)
  | [], r, h => by simp [findE] at h; subst h; simp
  | (k', v') :: es, r, h => by
    simp only [findE] at h
    split at h
    · rename_i hk
      cases h
      have := keyEq_true hk
      subst this
      exact ⟨[], es, rfl, by simp⟩
    · rename_i hk
      have ih := findE_cases h
      cases r with
      | none => intro p hp; simp only [List.mem_cons] at hp; rcases hp with rfl | hp; exact hk; exact ih p hp
      | some v =>
        obtain ⟨a, b, rfl, h2⟩ := ih
        exact ⟨(k', v') :: a, b, rfl, fun p hp => by simp only [List.mem_cons] at hp; rcases hp with rfl | hp; exact hk; exact h2 p hp⟩
    · cases h

theorem putE_cases {k v : AV} : ∀ {es es' : List (AV × AV)}, putE k v es = some es' →
    (∃ a v0 b, es = a ++ (k, v0) :: b ∧ es' = a ++ (k, v) :: b) ∨ (es' = es ++ [(k, v)] ∧ ∀ p ∈ es, keyEq k p.1 = some false)
  | [], es', h => by simp [putE] at h; subst h; exact .inr ⟨rfl, by simp⟩
  | (k', v') :: es, es', h => by
    simp only [putE] at h
    split at h
    · rename_i hk
      cases h
      have := keyEq_true hk
      subst this
      exact .inl ⟨[], v', es, rfl, rfl⟩
    · rename_i hk
      split at h
      · rename_i r hr
        cases h
        rcases putE_cases hr with ⟨a, v0, b, rfl, rfl⟩ | ⟨rfl, h2⟩
        · exact .inl ⟨(k', v') :: a, v0, b, rfl, rfl⟩
        · exact .inr ⟨rfl, fun p hp => by simp only [List.mem_cons] at hp; rcases hp with rfl | hp; exact hk; exact h2 p hp⟩
      · cases h
    · cases h

theorem delE_cases {k : AV} : ∀ {es es' : List (AV × AV)}, delE k es = some es' →
    (∃ a v0 b, es = a ++ (k, v0) :: b ∧ es' = a ++ b) ∨ (es' = es ∧ ∀ p ∈ es, keyEq k p.1 = some false)
  | [], es', h => by simp [delE] at h; subst h; exact .inr ⟨rfl, by simp⟩
  | (k', v') :: es, es', h => by
    simp only [delE] at h
    split at h
    · rename_i hk
      cases h
      have := keyEq_true hk
      subst this
      exact .inl ⟨[], v', _, rfl, rfl⟩
    · rename_i hk
      split at h
      · rename_i r hr
        cases h
        rcases delE_cases hr with ⟨a, v0, b, rfl, rfl⟩ | ⟨rfl, h2⟩
        · exact .inl ⟨(k', v') :: a, v0, b, rfl, rfl⟩
        · exact .inr ⟨rfl, fun p hp => by simp only [List.mem_cons] at hp; rcases hp with rfl | hp; exact hk; exact h2 p hp⟩
      · cases h
    · cases h

theorem findNow_none {d : TypeDesc} {u : Value} : ∀ {cs : List MapEntry} (i : Nat), (∀ e ∈ cs, Instr.sameNow d u e.key = some false) → Instr.findNow d u cs i = some none
  | [], i, _ => rfl
  | e :: cs, i, h => by
    simp only [Instr.findNow, h e (by simp)]
    exact findNow_none (i + 1) fun x hx => h x (by simp [hx])
theorem findNow_some {d : TypeDesc} {u : Value} : ∀ {cs : List MapEntry} (i : Nat), (∀ e ∈ cs, ∃ b, Instr.sameNow d u e.key = some b) → (∃ e ∈ cs, Instr.sameNow d u e.key = some true) →
    ∃ j e, cs[j]? = some e ∧ Instr.sameNow d u e.key = some true ∧ Instr.findNow d u cs i = some (some (i + j, e.val))
  | [], i, _, h => by obtain ⟨e, he, _⟩ := h; cases he
  | e :: cs, i, h1, h2 => by
    obtain ⟨b, hb⟩ := h1 e (by simp)
    cases b with
    | true => exact ⟨0, e, rfl, hb, by simp [Instr.findNow, hb]⟩
    | false =>
      obtain ⟨x, hx, hx2⟩ := h2
      simp only [List.mem_cons] at hx
      rcases hx with rfl | hx
      · rw [hb] at hx2; cases hx2
      · obtain ⟨j, e', q1, q2, q3⟩ := findNow_some (i + 1) (fun y hy => h1 y (by simp [hy])) ⟨x, hx, hx2⟩
        refine ⟨j + 1, e', by simpa using q1, q2, ?_⟩
        simp only [Instr.findNow, hb, q3]
        congr 3; omega

/-- looking for a key in the model's map -/
theorem findKey_none {kt : TypeId} {d : TypeDesc} {k : AV} {u : Value} {es : List (AV × AV)} {ds : List MapEntry} {ces : Array MapEntry} (ht : P.underlying kt = some d) (hk : keyOkD d k = true) (hu : VR σ k u)
    (he : EsR σ es ds) (hp : ces.toList.Perm ds) (hf : ∀ p ∈ es, keyEq k p.1 = some false) : (Instr.findKey kt u ces.toList).run P w = .ok none w := by
  have h1 : ∀ e ∈ ces.toList, Instr.sameNow d u e.key = some false := fun e he' => by
    obtain ⟨p, p1, p2, _⟩ := he.mem e (hp.mem_iff.1 he')
    exact keyEq_ok (hf p p1) hu p2 d hk
  simp only [Instr.findKey, Sem.run_bind, run_und ht, Result.andThen_ok, findNow_none 0 h1, Sem.run_pure]

theorem findKey_some {kt : TypeId} {d : TypeDesc} {k v0 : AV} {u : Value} {a b : List (AV × AV)} {ds : List MapEntry} {ces : Array MapEntry} (ht : P.underlying kt = some d) (hk : keyOkD d k = true) (hu : VR σ k u)
    (he : EsR σ (a ++ (k, v0) :: b) ds) (hp : ces.toList.Perm ds) (hok : keysOk (a ++ (k, v0) :: b)) :
    ∃ i e d1 d2, ces.toList[i]? = some e ∧ ds = d1 ++ e :: d2 ∧ EsR σ a d1 ∧ EsR σ b d2 ∧ VR σ k e.key ∧ VR σ v0 e.val ∧ Instr.sameNow d u e.key = some true ∧ (Instr.findKey kt u ces.toList).run P w = .ok (some (i, e.val)) w := by
  obtain ⟨d1, d3, rfl, e1, e2⟩ := he.split
  simp only [EsR] at e2
  obtain ⟨e, d2, rfl, e3, e4, e5⟩ := e2
  obtain ⟨⟨d', hd'⟩, hnd⟩ := hok
  have hkd := hd' (k, v0) (by simp)
  have hkl : keyLit k := keyLit_of hkd
  have hkk : keyEq k k = some true := by
    cases k <;> simp only [keyLit] at hkl
    · simp [keyEq, keq_eq, ieq_eq]
    · simp [keyEq, leq_self]
  have hse : Instr.sameNow d u e.key = some true := keyEq_ok hkk hu e3 d hk
  rw [List.map_append, List.map_cons] at hnd
  -- whatever matches is this entry
  have huniq : ∀ x ∈ d1 ++ e :: d2, Instr.sameNow d u x.key = some true → x = e := by
    intro x hx hs
    simp only [List.mem_append, List.mem_cons] at hx
    have hnd' := List.nodup_append.1 hnd
    rcases hx with hx | rfl | hx
    · obtain ⟨p, p1, p2, _⟩ := e1.mem x hx
      have := same_key hk (keyLit_of (hd' p (by simp [p1]))) hu p2 hs
      exact absurd this.symm (hnd'.2.2 p.1 (List.mem_map_of_mem p1) k (by simp))
    · rfl
    · obtain ⟨p, p1, p2, _⟩ := e5.mem x hx
      have := same_key hk (keyLit_of (hd' p (by simp [p1]))) hu p2 hs
      have h3 := (List.nodup_cons.1 hnd'.2.1).1
      rw [this] at h3
      exact absurd (List.mem_map_of_mem p1) h3
  have hall : ∀ x ∈ ces.toList, ∃ q, Instr.sameNow d u x.key = some q := fun x hx => by
    obtain ⟨p, p1, p2, _⟩ := he.mem x (hp.mem_iff.1 hx)
    obtain ⟨q, hq⟩ := same_def hkd (hd' p p1)
    exact ⟨q, keyEq_ok hq hu p2 d hk⟩
  obtain ⟨j, e', q1, q2, q3⟩ := findNow_some (d := d) (u := u) 0 hall ⟨e, hp.mem_iff.2 (by simp), hse⟩
  have : e' = e := huniq e' (hp.mem_iff.1 (List.mem_of_getElem? q1)) q2
  subst this
  refine ⟨j, e', d1, d2, q1, rfl, e1, e5, e3, e4, hse, ?_⟩
  simp only [Instr.findKey, Sem.run_bind, run_und ht, Result.andThen_ok, q3, Sem.run_pure, Nat.zero_add]

end
end Go.SK

/- One operation, fifteenth part: maps' operations. -/
namespace Go.SK
open Go

section
variable {P : Program} {w0 : World} {σ : Sg} {nx : Nat} {H : Heap} {w : World} {E : Env} {ρ : Operand → Value} {o : Oper}

/-- an object that is no row is set -/
theorem setObj_ok (hR : Rel P w0 σ nx H w) {r : Nat} {l : Loc} {ao ao' : AObj} {ob : Obj} (ob' : Obj) (hg : H.get r = some ao) (l1 : σ r = some l) (hnc : ∀ cs e, ao ≠ .cells cs e .ro)
    (hw : w.heap[l.blk]? = some ob) (hob : ∀ a b c, ob ≠ .cells a b c) (ho : ∀ w' : World, w'.heap[l.blk]? = some ob' → OR P σ w' l ao') :
    ∃ w', (setObj l.blk ob').run P w = .ok () w' ∧ Rel P w0 σ nx (H.set r (some ao')) w' := by
  have hlt : l.blk < w.heap.size := (Array.getElem?_eq_some_iff.1 hw).1
  refine ⟨{ w with heap := w.heap.setIfInBounds l.blk ob' }, ?_, hR.change hg l1 hnc ⟨rfl, rfl, rfl, by simp, fun k hk => ?_⟩ (ho _ ?_)⟩
  · simp only [setObj, Sem.run, hw]
  · show (w.heap.setIfInBounds l.blk ob')[k]? = _
    rw [Array.getElem?_setIfInBounds_ne (fun e => hk e.symm)]
  · show (w.heap.setIfInBounds l.blk ob')[l.blk]? = _
    rw [Array.getElem?_setIfInBounds_self_of_lt hlt]

theorem keyOk_d {t : TypeId} {k : AV} (h : keyOk P t k = true) : ∃ d, P.underlying t = some d ∧ keyOkD d k = true := by
  unfold keyOk at h
  split at h
  · rename_i d hd; exact ⟨d, hd, h⟩
  · cases h

theorem keyLit_one {k : AV} {u v : Value} (hk : keyLit k) (hu : VR σ k u) (hv : VR σ k v) : u = v ∧ Instr.sameBits 10000 u v = true := by
  cases k <;> simp only [keyLit] at hk
  · simp only [VR] at hu hv; subst hu hv; exact ⟨rfl, by simp [Instr.sameBits]⟩
  · simp only [VR] at hu hv
    obtain ⟨s, rfl, rfl⟩ := hu
    obtain ⟨t, rfl, h⟩ := hv
    have : t = s := by
      have h2 : t.data.toList = s.data.toList := by
        have inj : ∀ (x y : List UInt8), x.map UInt8.toNat = y.map UInt8.toNat → x = y := by
          intro x y hxy
          exact (List.map_inj_right (fun a b hab => UInt8.toNat_inj.1 hab)).1 hxy
        exact inj _ _ h
      cases t; cases s
      simp only at h2
      rw [Array.toList_inj] at h2
      subst h2; rfl
    subst this
    exact ⟨rfl, by simp [Instr.sameBits, beq_toListBytes]⟩

theorem opLookup_ok (hR : Rel P w0 σ nx H w) {t : TypeId} {x k : Operand} {ok : Bool} (hE : OpdOn σ E ρ [x, k]) {r : OpR} (h : opLookup P E H nx t x k ok = some r) (ho : o.op = .lookup t x k ok) : OpOk P w0 σ H nx w r (execOp ρ o) := by
  unfold opLookup at h
  split at h
  · rename_i kt et ht
    split at h
    · rename_i m kv hm hk
      have hm' := hE x (by simp) _ hm
      have hk' := hE k (by simp) _ hk
      split at h
      · rename_i es hes hkk
        obtain ⟨d, d1, d2⟩ := keyOk_d hkk
        have fin : ∀ (v : AV) (u : Value) (b : Bool), VR σ v u → (execOp ρ o).run P w = .ok (.value (if ok then .tuple #[u, .bool b] else u)) w → OpOk P w0 σ H nx w (.val (okTup ok v b) H nx) (execOp ρ o) := by
          intro v u b hv hr
          refine ValR.same hR hr ?_
          cases ok
          · exact hv
          · simp only [okTup, VR]
            exact ⟨_, rfl, by simp only [VRs]; exact ⟨_, _, rfl, hv, _, _, rfl, by simp [VR], rfl⟩⟩
        split at h
        · rename_i v hf
          cases h
          obtain ⟨a, b, rfl, h5⟩ := findE_cases hf
          rcases getMap_ok hR hm' hes with ⟨h1, h2⟩ | ⟨q, l, ces, clock, ds, rfl, l1, h1, hg, h2, h3, h4, h6⟩
          · simp at h2
          · obtain ⟨i, e, e1, e2, q1, q2, q3, q4, q5, q6, q7, q8⟩ := findKey_some (w := w) d1 d2 hk' h4 h3 h6
            refine fin v e.val true q6 ?_
            simp [execOp, ho, Instr.lookup, h1, run_und ht, getObj, Sem.run, h2, checkKey_ok (n := 9999) d1 d2 hk', q8]
        · rename_i hf
          split at h
          · rename_i z hz
            cases h
            obtain ⟨ti, zv, z1, z2, z3⟩ := zeroT_VR σ hz
            have h5 := findE_cases hf
            simp only at h5
            refine fin z zv false z3 ?_
            rcases getMap_ok hR hm' hes with ⟨h1, rfl⟩ | ⟨q, l, ces, clock, ds, rfl, l1, h1, hg, h2, h3, h4, h6⟩
            · have := findKey_none (w := w) (σ := σ) (es := []) (ds := []) (ces := #[]) d1 d2 hk' (by simp [EsR]) (by simp) (by simp)
              simp [execOp, ho, Instr.lookup, h1, run_und ht, checkKey_ok (n := 9999) d1 d2 hk', this, run_zero z1 z2]
            · have := findKey_none (w := w) d1 d2 hk' h4 h3 h5
              simp [execOp, ho, Instr.lookup, h1, run_und ht, getObj, Sem.run, h2, checkKey_ok (n := 9999) d1 d2 hk', this, run_zero z1 z2]
          · cases h
        · cases h
      · cases h
    · cases h
  · cases h

theorem perm_mid {α : Type} {A B C D : List α} {e : α} (h : (A ++ e :: B).Perm (C ++ e :: D)) : (A ++ B).Perm (C ++ D) :=
  ((List.perm_middle.symm.trans h).trans List.perm_middle).cons_inv
theorem perm_mid' {α : Type} {A B C D : List α} (e : α) (h : (A ++ B).Perm (C ++ D)) : (A ++ e :: B).Perm (C ++ e :: D) :=
  (List.perm_middle.trans (h.cons e)).trans List.perm_middle.symm

theorem split_at {α : Type} {l : List α} {i : Nat} {e : α} (h : l[i]? = some e) : l = l.take i ++ e :: l.drop (i + 1) := by
  obtain ⟨h1, h2⟩ := List.getElem?_eq_some_iff.1 h
  rw [← h2, List.getElem_cons_drop, List.take_append_drop]

theorem EsR.snoc {es : List (AV × AV)} {ds : List MapEntry} (h : EsR σ es ds) {k v : AV} {e : MapEntry} (hk : VR σ k e.key) (hv : VR σ v e.val) : EsR σ (es ++ [(k, v)]) (ds ++ [e]) :=
  h.join (by simp only [EsR]; exact ⟨e, [], rfl, hk, hv, rfl⟩)

theorem opMapPut_ok (hR : Rel P w0 σ nx H w) {t : TypeId} {m k v : Operand} (hE : OpdOn σ E ρ [m, k, v]) {r : OpR} (h : opMapPut P E H nx t m k v = some r) (ho : o.op = .mapUpdate t m k v ∨ o.op = .insert t m k v) : OpOk P w0 σ H nx w r (execOp ρ o) := by
  have hx : execOp ρ o = (do Instr.mapUpdate t (ρ m) (ρ k) (ρ v); pure .skip : Sem Next) := by
    rcases ho with ho | ho <;> simp only [execOp, ho]
  unfold opMapPut at h
  split at h
  · rename_i kt et ht
    split at h
    · rename_i q kv vv hm hk hv
      have hm' := hE m (by simp) _ hm
      have hk' := hE k (by simp) _ hk
      have hv' := hE v (by simp) _ hv
      split at h
      · rename_i es hg hkk
        obtain ⟨d, d1, d2⟩ := keyOk_d hkk
        split at h
        · rename_i es' hp
          cases h
          rcases getMap_ok (es := es) hR hm' (by simp [getMap, hg]) with ⟨h1, h2⟩ | ⟨q', l, ces, clock, ds, hq, l1, h1, _, h2, h3, h4, h6⟩
          · simp only [VR] at hm'; obtain ⟨l, _, e⟩ := hm'; rw [h1] at e; cases e
          · cases hq
            have key : ∀ (ces' : Array MapEntry) (c' : Nat) (ds' : List MapEntry), ces'.toList.Perm ds' → EsR σ es' ds' → keysOk es' →
                (Instr.mapUpdate t (ρ m) (ρ k) (ρ v)).run P w = (setObj l.blk (.map ces' c')).run P w → OpOk P w0 σ H nx w (.val undef (H.set q (some (.map es'))) nx) (execOp ρ o) := by
              intro ces' c' ds' p1 p2 p3 p4
              obtain ⟨w', s1, s2⟩ := setObj_ok (ao' := .map es') hR (.map ces' c') hg l1 (fun _ _ e => by cases e) h2 (fun _ _ _ e => by cases e) (fun w' hw' => by
                simp only [OR]; exact ⟨ces', c', ds', hw', p1, p2, p3⟩)
              refine ⟨σ, Go.undef, w', .skip, Sg.le_refl _, ?_, .inr ⟨rfl, rfl⟩, VR.undef σ, s2⟩
              rw [hx, Sem.run_bind, p4, s1]; rfl
            rcases putE_cases hp with ⟨a, v0, b, rfl, rfl⟩ | ⟨rfl, h5⟩
            · obtain ⟨i, e, e1, e2, q1, rfl, q3, q4, q5, q6, q7, q8⟩ := findKey_some (w := w) d1 d2 hk' h4 h3 h6
              obtain ⟨u1, u2⟩ := keyLit_one (keyLit_of d2) q5 hk'
              have hsp := split_at q1
              have h3' := h3
              rw [hsp] at h3'
              let e' : MapEntry := { e with key := ρ k, val := ρ v }
              refine key (ces.modify i fun e => { e with key := ρ k, val := ρ v }) clock (e1 ++ e' :: e2) ?_ ?_ ?_ ?_
              · have : (ces.modify i fun e => { e with key := ρ k, val := ρ v }).toList = ces.toList.take i ++ e' :: ces.toList.drop (i + 1) := by
                  rw [Array.toList_modify, List.modify_eq_take_cons_drop (List.getElem?_eq_some_iff.1 q1).1]
                  rw [(List.getElem?_eq_some_iff.1 q1).2]
                rw [this]
                exact perm_mid' e' (perm_mid h3')
              · exact q3.join (by simp only [EsR]; exact ⟨e', e2, rfl, hk', hv', q4⟩)
              · obtain ⟨⟨dd, g1⟩, g2⟩ := h6
                refine ⟨⟨dd, fun p hp => ?_⟩, by simpa using g2⟩
                simp only [List.mem_append, List.mem_cons] at hp
                rcases hp with hp | rfl | hp
                · exact g1 p (by simp [hp])
                · exact g1 (kv, v0) (by simp)
                · exact g1 p (by simp [hp])
              · have q1' : ces[i]? = some e := by rw [← q1]; simp
                simp [Instr.mapUpdate, h1, run_und ht, getObj, Sem.run, h2, checkKey_ok (n := 9999) d1 d2 hk', q8, q1', Instr.keyThatStays, u2]
            · have := findKey_none (w := w) d1 d2 hk' h4 h3 h5
              refine key (ces.push { key := ρ k, val := ρ v, born := clock }) (clock + 1) (ds ++ [{ key := ρ k, val := ρ v, born := clock }]) ?_ (h4.snoc hk' hv') ?_ ?_
              · rw [Array.toList_push]; exact h3.append_right _
              · obtain ⟨_, g2⟩ := h6
                refine ⟨⟨d, fun p hp => ?_⟩, ?_⟩
                · simp only [List.mem_append, List.mem_singleton] at hp
                  rcases hp with hp | rfl
                  · exact keyOk_of_false d2 (h5 p hp)
                  · exact d2
                · rw [List.map_append, List.nodup_append]
                  refine ⟨g2, by simp, fun x hx y hy => ?_⟩
                  simp at hy
                  subst hy
                  obtain ⟨p, p1, rfl⟩ := List.mem_map.1 hx
                  exact fun e => keyEq_false (h5 p p1) e.symm
              · simp [Instr.mapUpdate, h1, run_und ht, getObj, Sem.run, h2, checkKey_ok (n := 9999) d1 d2 hk', this]
        · cases h
      · cases h
    · cases h
  · cases h

theorem delete_ok (hR : Rel P w0 σ nx H w) {t ty : TypeId} {ts : List TypeId} {m k : AV} {vm vk : Value} {r : OpR} (hm : VR σ m vm) (hk : VR σ k vk) (h : builtinOp P H nx .delete (t :: ts) [m, k] = some r) :
    OpS P w0 σ H nx w r (Builtin.delete_ (t :: ts).toArray ty #[vm, vk]) := by
  have a0 : ((t :: ts).toArray : Array TypeId)[0]? = some t := rfl
  have b0 : (#[vm, vk] : Array Value)[0]? = some vm := rfl
  have b1 : (#[vm, vk] : Array Value)[1]? = some vk := rfl
  simp only [builtinOp] at h
  split at h
  · rename_i kt et ht
    split at h
    · rename_i hkk
      obtain ⟨d, d1, d2⟩ := keyOk_d hkk
      split at h
      · cases h
        simp only [VR] at hm; subst hm
        exact OpS.same hR (v' := .tuple #[]) (by simp [Builtin.delete_, run_und ht, checkKey_ok (n := 9999) d1 d2 hk]) (VR.undef σ)
      · rename_i q
        split at h
        · rename_i es hg
          split at h
          · rename_i es' hp
            cases h
            rcases getMap_ok (es := es) hR hm (by simp [getMap, hg]) with ⟨h1, h2⟩ | ⟨q', l, ces, clock, ds, hq, l1, h1, _, h2, h3, h4, h6⟩
            · simp only [VR] at hm; obtain ⟨l, _, e⟩ := hm; rw [h1] at e; cases e
            · cases hq
              have key : ∀ (ces' : Array MapEntry) (c' : Nat) (ds' : List MapEntry), ces'.toList.Perm ds' → EsR σ es' ds' → keysOk es' →
                  (Builtin.delete_ (t :: ts).toArray ty #[vm, vk]).run P w = (do setObj l.blk (.map ces' c'); pure (.tuple #[]) : Sem Value).run P w → OpS P w0 σ H nx w (.val undef (H.set q (some (.map es'))) nx) (Builtin.delete_ (t :: ts).toArray ty #[vm, vk]) := by
                intro ces' c' ds' p1 p2 p3 p4
                obtain ⟨w', s1, s2⟩ := setObj_ok (ao' := .map es') hR (.map ces' c') hg l1 (fun _ _ e => by cases e) h2 (fun _ _ _ e => by cases e) (fun w' hw' => by
                  simp only [OR]; exact ⟨ces', c', ds', hw', p1, p2, p3⟩)
                refine ⟨_, _, _, rfl, σ, Go.undef, w', Sg.le_refl _, ?_, VR.undef σ, s2⟩
                rw [p4, Sem.run_bind, s1]; rfl
              rcases delE_cases hp with ⟨a, v0, b, rfl, rfl⟩ | ⟨rfl, h5⟩
              · obtain ⟨i, e, e1, e2, q1, rfl, q3, q4, q5, q6, q7, q8⟩ := findKey_some (w := w) d1 d2 hk h4 h3 h6
                have hsp := split_at q1
                have h3' := h3
                rw [hsp] at h3'
                refine key (ces.eraseIdxIfInBounds i) clock (e1 ++ e2) ?_ (q3.join q4) ?_ ?_
                · have : (ces.eraseIdxIfInBounds i).toList = ces.toList.take i ++ ces.toList.drop (i + 1) := by
                    rw [Array.toList_eraseIdxIfInBounds, List.eraseIdx_eq_take_drop_succ]
                  rw [this]; exact perm_mid h3'
                · obtain ⟨⟨dd, g1⟩, g2⟩ := h6
                  refine ⟨⟨dd, fun p hp => ?_⟩, ?_⟩
                  · simp only [List.mem_append] at hp
                    exact g1 p (by simp; rcases hp with hp | hp <;> simp [hp])
                  · refine g2.sublist ?_
                    exact List.Sublist.map _ (List.Sublist.append_left (List.sublist_cons_self _ _) a)
                · simp [Builtin.delete_, h1, run_und ht, getObj, Sem.run, h2, checkKey_ok (n := 9999) d1 d2 hk, q8]
              · have := findKey_none (w := w) d1 d2 hk h4 h3 h5
                refine key ces clock ds h3 h4 h6 ?_
                simp [Builtin.delete_, h1, run_und ht, getObj, Sem.run, h2, checkKey_ok (n := 9999) d1 d2 hk, this]
          · cases h
        · cases h
      · cases h
    · cases h
  · cases h

theorem clear_ok (hR : Rel P w0 σ nx H w) {t ty : TypeId} {ts : List TypeId} {m : AV} {vm : Value} {r : OpR} (hm : VR σ m vm) (h : builtinOp P H nx .clear (t :: ts) [m] = some r) :
    OpS P w0 σ H nx w r (Builtin.clear_ (t :: ts).toArray ty #[vm]) := by
  simp only [builtinOp] at h
  split at h
  · rename_i d ht
    cases h
    simp only [VR] at hm; subst hm
    exact OpS.same hR (v' := .tuple #[]) (by simp [Builtin.clear_, run_und ht]) (VR.undef σ)
  · rename_i d q ht
    split at h
    · rename_i es hg
      cases h
      rcases getMap_ok (es := es) hR hm (by simp [getMap, hg]) with ⟨h1, h2⟩ | ⟨q', l, ces, clock, ds, hq, l1, h1, _, h2, h3, h4, h6⟩
      · simp only [VR] at hm; obtain ⟨l, _, e⟩ := hm; rw [h1] at e; cases e
      · cases hq
        obtain ⟨w', s1, s2⟩ := setObj_ok (ao' := .map []) hR (.map #[] clock) hg l1 (fun _ _ e => by cases e) h2 (fun _ _ _ e => by cases e) (fun w' hw' => by
                  simp only [OR]; exact ⟨#[], clock, [], hw', by simp, by simp [EsR], ⟨⟨.string, by simp⟩, by simp⟩⟩)
        refine ⟨_, _, _, rfl, σ, Go.undef, w', Sg.le_refl _, ?_, VR.undef σ, s2⟩
        simp [Builtin.clear_, h1, run_und ht, getObj, Sem.run, h2, s1, Go.undef]
    · cases h
  · rename_i d ht
    cases h
    simp only [VR] at hm; subst hm
    exact OpS.same hR (v' := .tuple #[]) (by simp [Builtin.clear_, run_und ht]) (VR.undef σ)
  · rename_i e b off n c ht
    obtain ⟨lc, hlc⟩ : ∃ lc, σ b = some lc := by cases c <;> simp only [VR] at hm <;> (obtain ⟨lc, hm⟩ := hm) <;> first | exact ⟨lc, hm.1⟩ | (obtain ⟨_, h1, _⟩ := hm; exact ⟨lc, h1⟩)
    obtain ⟨c', h1, _⟩ := slc_at hlc hm
    subst h1
    split at h
    · rename_i hn
      cases h
      have := Nat.eq_of_beq_eq_true hn
      subst this
      exact OpS.same hR (v' := .tuple #[]) (by simp [Builtin.clear_, run_und ht]) (VR.undef σ)
    · rename_i z hn hz
      have hn0 : n ≠ 0 := by intro e; subst e; cases hn
      split at h
      · rename_i H' hH'
        cases h
        obtain ⟨ti, zv, z1, z2, z3, z4⟩ := zeroC_VR σ hz
        obtain ⟨w', s1, s2⟩ := storeCs_ok hR hlc hH' (us := (Builtin.zeroCells zv.cells n).toList) (reps_VRs z3 n) (reps_sc z4 n)
        refine ⟨_, _, _, rfl, σ, Go.undef, w', Sg.le_refl _, ?_, VR.undef σ, s2⟩
        simp [Builtin.clear_, run_und ht, run_zero z1 z2, s1, Go.undef, hn0]
      · cases h
    · cases h
  · cases h

end
end Go.SK

/- One operation, last part: iterators, calls, and all operations together. -/
namespace Go.SK
open Go

section
variable {P : Program} {w0 : World} {σ : Sg} {nx : Nat} {H : Heap} {w : World} {E : Env} {ρ : Operand → Value} {o : Oper}

theorem OpS.ok {r : OpR} {x : Sem Value} (h : OpS P w0 σ H nx w r x) {s : Sem Next} (hs : s.run P w = (do pure (.value (← x)) : Sem Next).run P w) : OpOk P w0 σ H nx w r s := by
  obtain ⟨v, H', nx', rfl, τ, v', w', h1, h2, h3, h4⟩ := h
  exact ⟨τ, v', w', .value v', h1, by rw [hs, Sem.run_bind, h2]; rfl, .inl rfl, h3, h4⟩

theorem min2_ok {a b c : AV} {u v : Value} (ha : VR σ a u) (hb : VR σ b v) (h : min2 (fun a b => ilt a b) a b = some c) : ∃ z, (Builtin.min2 u v).run P w = .ok z w ∧ VR σ c z := by
  unfold min2 at h
  split at h
  · rename_i k x k' y
    simp only [VR] at ha hb
    subst ha hb
    split at h
    · cases h
      refine ⟨_, rfl, ?_⟩
      simp only [VR, ilt_eq]
      by_cases c : y < x
      · simp only [if_pos c, decide_eq_true c]
      · simp only [if_neg c, decide_eq_false c]
    · cases h
  · cases h
theorem max2_ok {a b c : AV} {u v : Value} (ha : VR σ a u) (hb : VR σ b v) (h : min2 (fun a b => ilt b a) a b = some c) : ∃ z, (Builtin.max2 u v).run P w = .ok z w ∧ VR σ c z := by
  unfold min2 at h
  split at h
  · rename_i k x k' y
    simp only [VR] at ha hb
    subst ha hb
    split at h
    · cases h
      refine ⟨_, rfl, ?_⟩
      simp only [VR, ilt_eq]
      by_cases c : x < y
      · simp only [gt_iff_lt, if_pos c, decide_eq_true c]
      · simp only [gt_iff_lt, if_neg c, decide_eq_false c]
    · cases h
  · cases h
theorem minL_ok {lt : Int → Int → Bool} {f : Value → Value → Sem Value} (hf : ∀ {a b c : AV} {u v : Value}, VR σ a u → VR σ b v → min2 lt a b = some c → ∃ z, (f u v).run P w = .ok z w ∧ VR σ c z) :
    ∀ {l : List AV} {vs : List Value} {a c : AV} {u : Value}, VR σ a u → VRs σ l vs → minL lt a l = some c → ∃ z, (vs.foldlM f u).run P w = .ok z w ∧ VR σ c z
  | [], vs, a, c, u, ha, hl, h => by
    simp only [VRs] at hl; subst hl
    simp only [minL, Option.some.injEq] at h; subst h
    exact ⟨u, rfl, ha⟩
  | b :: l, vs, a, c, u, ha, hl, h => by
    simp only [VRs] at hl
    obtain ⟨v, vs, rfl, h1, h2⟩ := hl
    simp only [minL] at h
    split at h
    · rename_i z hz
      obtain ⟨y, y1, y2⟩ := hf ha h1 hz
      obtain ⟨q, q1, q2⟩ := minL_ok hf y2 h2 h
      exact ⟨q, by rw [List.foldlM_cons, Sem.run_bind, y1]; exact q1, q2⟩
    · cases h

/-- every builtin -/
theorem builtinOp_ok (hR : Rel P w0 σ nx H w) {b : Builtin} {ts : List TypeId} {ty : TypeId} {args : List AV} {vals : List Value} {consts : Array Bool} {r : OpR} (h : builtinOp P H nx b ts args = some r) (hv : VRs σ args vals) :
    OpOk P w0 σ H nx w r (builtin b ts.toArray ty consts vals.toArray) := by
  have minOk : ∀ {x : AV} {xs : List AV} {u : Value} {us : List Value} {lt : Int → Int → Bool} {f : Value → Value → Sem Value} {s : Sem Next}, VR σ x u → VRs σ xs us → (minL lt x xs).map (OpR.val · H nx) = some r →
      (∀ {a b c : AV} {u v : Value}, VR σ a u → VR σ b v → min2 lt a b = some c → ∃ z, (f u v).run P w = .ok z w ∧ VR σ c z) →
      s = (do pure (.value (← us.foldlM f u)) : Sem Next) → OpOk P w0 σ H nx w r s := by
    intro x xs u us lt f s h1 h2 h3 h4 hs
    simp only [Option.map_eq_some_iff] at h3
    obtain ⟨c, c1, rfl⟩ := h3
    obtain ⟨z, z1, z2⟩ := minL_ok h4 h1 h2 c1
    exact ValR.same hR (v' := z) (by rw [hs, Sem.run_bind, z1]; rfl) z2
  unfold builtinOp at h
  split at h
  · simp only [VRs] at hv
    obtain ⟨v1, _, rfl, h1, v2, _, rfl, h2, rfl⟩ := hv
    exact (appendOp_ok hR h1 h2 h).ok rfl
  · rename_i t ts x
    simp only [VRs] at hv
    obtain ⟨v1, _, rfl, h1, rfl⟩ := hv
    exact (len_ok (ts := ts) hR h1 (by simpa only [builtinOp] using h)).ok rfl
  · rename_i t ts x
    simp only [VRs] at hv
    obtain ⟨v1, _, rfl, h1, rfl⟩ := hv
    exact (cap_ok (ts := ts) hR h1 (by simpa only [builtinOp] using h)).ok rfl
  · rename_i t ts x y
    simp only [VRs] at hv
    obtain ⟨v1, _, rfl, h1, v2, _, rfl, h2, rfl⟩ := hv
    exact (copy_ok (ts := ts) hR h1 h2 (by simpa only [builtinOp] using h)).ok rfl
  · rename_i t ts x
    simp only [VRs] at hv
    obtain ⟨v1, _, rfl, h1, rfl⟩ := hv
    exact (clear_ok (ts := ts) hR h1 (by simpa only [builtinOp] using h)).ok rfl
  · rename_i t ts x y
    simp only [VRs] at hv
    obtain ⟨v1, _, rfl, h1, v2, _, rfl, h2, rfl⟩ := hv
    exact (delete_ok (ts := ts) hR h1 h2 (by simpa only [builtinOp] using h)).ok rfl
  · simp only [VRs] at hv
    obtain ⟨v1, vs, rfl, h1, h2⟩ := hv
    exact minOk (f := Builtin.min2) h1 h2 h min2_ok rfl
  · simp only [VRs] at hv
    obtain ⟨v1, vs, rfl, h1, h2⟩ := hv
    exact minOk (f := Builtin.max2) h1 h2 h max2_ok rfl
  · simp only [VRs, VR] at hv
    obtain ⟨_, _, rfl, rfl, rfl⟩ := hv
    cases h
    exact ValR.same hR (v' := .float _ _) rfl (by simp only [VR])
  · simp only [VRs, VR] at hv
    obtain ⟨_, _, rfl, rfl, rfl⟩ := hv
    cases h
    exact ValR.same hR (v' := .float _ _) rfl (by simp only [VR])
  · cases h

/-- an iterator -/
theorem opRange_ok (hR : Rel P w0 σ nx H w) {t : TypeId} {x : Operand} (hE : OpdOn σ E ρ [x]) {r : OpR} (h : opRange P E H nx t x = some r) (ho : o.op = .range t x) : OpOk P w0 σ H nx w r (execOp ρ o) := by
  have fin : ∀ (ob : Obj) (ao : AObj) (s : Sem Next), s.run P w = .ok (.value (.pointer (some ⟨w.heap.size, 0, none⟩))) (w.alloc ob) → (∀ l : Loc, l.blk = w.heap.size → l.off = 0 → OR P (σ.ext nx l) (w.alloc ob) l ao) →
      OpOk P w0 σ H nx w (.val (.ptr nx 0) (H.set nx (some ao)) (nx + 1)) s := by
    intro ob ao s hs hO
    let l : Loc := ⟨w.heap.size, 0, 0, 0⟩
    exact ⟨σ.ext nx l, _, _, _, Sg.le_ext (hR.fresh nx (Nat.le_refl _)), hs, .inl rfl, by simp only [VR]; exact ⟨l, Sg.ext_same _ _ _, rfl⟩, hR.alloc ob ao l rfl (hO l rfl rfl)⟩
  unfold opRange at h
  split at h
  · rename_i s ht hx
    cases h
    have := hE x (by simp) _ hx
    simp only [VR] at this
    obtain ⟨t', t1, t2⟩ := this
    refine fin (.stringIter t' 0) _ _ ?_ ?_
    · simp only [execOp, ho, Instr.range, t1, Sem.run_bind, run_und ht, Result.andThen_ok, Sem.run_pure, run_newObj]; rfl
    · intro l hl h0
      simp only [OR]
      exact ⟨t', by rw [hl]; exact heap_new w _, by simpa using t2, h0⟩
  · rename_i k e ht hx
    cases h
    have := hE x (by simp) _ hx
    simp only [VR] at this
    refine fin (.mapIter none 0 #[] 0) _ _ ?_ ?_
    · simp only [execOp, ho, Instr.range, this, Sem.run_bind, run_und ht, Result.andThen_ok, Sem.run_pure, run_newObj]; rfl
    · intro l hl h0
      simp only [OR]
      exact ⟨0, #[], 0, by rw [hl]; exact heap_new w _, (fun _ e => by cases e), h0⟩
  · rename_i k e m ht hx
    have hm := hE x (by simp) _ hx
    split at h
    · rename_i es hg
      cases h
      rcases getMap_ok (es := es) hR hm (by simp [getMap, hg]) with ⟨h1, h2⟩ | ⟨q', l, ces, clock, ds, hq, l1, h1, _, h2, h3, h4, h6⟩
      · simp only [VR] at hm; obtain ⟨l, _, e⟩ := hm; rw [h1] at e; cases e
      · cases hq
        refine fin (.mapIter (some l.blk) clock #[] clock) _ _ ?_ ?_
        · simp only [execOp, ho, Instr.range, h1, Sem.run_bind, run_und ht, Result.andThen_ok, Sem.run_pure, getObj, Sem.run, h2, run_newObj]; rfl
        · intro l' hl' h0'
          simp only [OR]
          have : (σ.ext nx l') m = some l := Sg.le_ext (hR.fresh nx (Nat.le_refl _)) _ _ l1
          exact ⟨clock, #[], clock, by rw [hl']; simp only [Option.bind_some, this, Option.map_some]; exact heap_new w _, (fun r e => by cases e; rw [this]; rfl), h0'⟩
    · cases h
  · cases h

theorem get!_at (t : ByteArray) {pos c : Nat} {s : List Nat} (h : (t.data.toList.map UInt8.toNat).drop pos = c :: s) : pos < t.size ∧ (t.get! pos).toNat = c ∧ (t.data.toList.map UInt8.toNat).drop (pos + 1) = s := by
  have hlt : pos < (t.data.toList.map UInt8.toNat).length := by
    rcases Nat.lt_or_ge pos (t.data.toList.map UInt8.toNat).length with c | c
    · exact c
    · rw [List.drop_eq_nil_of_le c] at h; cases h
  have hlt2 : pos < t.data.size := by simpa using hlt
  rw [List.drop_eq_getElem_cons hlt] at h
  simp only [List.getElem_map, Array.getElem_toList, List.cons.injEq] at h
  refine ⟨hlt2, ?_, h.2⟩
  rw [← h.1]
  show (t.data[pos]!).toNat = _
  rw [getElem!_pos t.data pos hlt2]

theorem opNext_ok (hR : Rel P w0 σ nx H w) {str : Bool} {x : Operand} (hE : OpdOn σ E ρ [x]) {r : OpR} (h : opNext E H nx x str = some r) (ho : o.op = .next x str) : OpOk P w0 σ H nx w r (execOp ρ o) := by
  have over : (execOp ρ o).run P w = .ok (.value (.tuple #[.bool false])) w → OpOk P w0 σ H nx w (.val (.tup [.bool false]) H nx) (execOp ρ o) := fun hs =>
    ValR.same hR hs (by simp only [VR]; exact ⟨_, rfl, by simp [VRs, VR]⟩)
  unfold opNext at h
  split at h
  · rename_i q hx
    have hx' := hE x (by simp) _ hx
    simp only [VR] at hx'
    obtain ⟨l, l1, hx'⟩ := hx'
    have loc : ∀ ao, H.get q = some ao → OR P σ w l ao := fun ao hg => by
      obtain ⟨l', l2, hO⟩ := hR.dom q _ hg
      rw [l1] at l2; cases l2; exact hO
    split at h
    · rename_i s pos hg
      have hO := loc _ hg
      simp only [OR] at hO
      obtain ⟨t, h1, h2, h3⟩ := hO
      simp only [Loc.at, h3] at hx'
      split at h
      · cases h
        have hsz : ¬ pos < t.size := by
          intro c
          have : (t.data.toList.map UInt8.toNat).length ≤ pos := List.drop_eq_nil_iff.1 h2
          simp at this
          exact absurd c (Nat.not_lt.2 this)
        exact over (by simp [execOp, ho, Instr.next, hx', getObj, Sem.run, h1, hsz])
      · rename_i c s'
        split at h
        · rename_i hc
          cases h
          have hc' : c < 128 := by simpa using hc
          obtain ⟨g1, g2, g3⟩ := get!_at t h2
          have hd : Utf8.decode t pos = (c, 1) := by simp [Utf8.decode, g2, hc']
          obtain ⟨w', s1, s2⟩ := setObj_ok (ao' := .strIter s' (pos + 1)) hR (.stringIter t (pos + 1)) hg l1 (fun _ _ e => by cases e) h1 (fun _ _ _ e => by cases e) (fun w' hw' => by
            simp only [OR]; exact ⟨t, hw', g3, h3⟩)
          refine ⟨σ, .tuple #[.bool true, goInt pos, .int .i32 c], w', .value _, Sg.le_refl _, ?_, .inl rfl, ?_, s2⟩
          · simp [execOp, ho, Instr.next, hx', getObj, Sem.run, h1, g1, hd, s1]
          · simp only [VR]; exact ⟨_, rfl, by simp [VRs, VR, goI, goInt]⟩
        · cases h
    · rename_i hg
      cases h
      have hO := loc _ hg
      simp only [OR] at hO
      obtain ⟨a, b, c, h1, h2, h3⟩ := hO
      simp only [Loc.at, h3] at hx'
      exact over (by simp [execOp, ho, Instr.next, hx', getObj, Sem.run, h1])
    · rename_i m hg
      split at h
      · rename_i hm
        cases h
        have hO := loc _ hg
        simp only [OR] at hO
        obtain ⟨a, b, c, h1, h2, h3⟩ := hO
        simp only [Loc.at, h3] at hx'
        obtain ⟨lm, m1, m2⟩ := hR.dom m _ hm
        simp only [OR] at m2
        obtain ⟨ces, clock, ds, q1, q2, q3, q4⟩ := m2
        simp only [EsR] at q3
        subst q3
        have : ces = #[] := by simpa using q2
        subst this
        simp only [Option.bind_some, m1, Option.map_some] at h1
        exact over (by simp [execOp, ho, Instr.next, hx', getObj, Sem.run, h1, q1, choose, Question.forced])
      · cases h
    · cases h
  · cases h

theorem opCall_ok (hR : Rel P w0 σ nx H w) {c : Call} (hE : OpdOn σ E ρ c.operands.toList) {r : OpR} (h : opCall P E H nx c = some r) (ho : o.op = .call c) : OpOk P w0 σ H nx w r (execOp ρ o) := by
  have hargs : ∀ as, evs E c.args.toList = some as → VRs σ as (c.args.map ρ).toList := fun as has => by
    rw [Array.toList_map]
    exact evs_ok (fun y hy => hE y (by simp only [Call.operands, Array.toList_append, List.mem_append]; exact .inr hy)) has
  unfold opCall at h
  split at h
  · rename_i b hb
    split at h
    · rename_i args ha
      have := builtinOp_ok (ty := o.type) (consts := c.args.map fun | .const _ => true | _ => false) hR h (hargs _ ha)
      have e : (execOp ρ o) = builtin b c.argTypes.toList.toArray o.type (c.args.map fun | .const _ => true | _ => false) (c.args.map ρ).toList.toArray := by
        simp only [execOp, ho, resolve, hb, pure_bind, invoke, Array.toArray_toList]
        rfl
      rw [e]; exact this
    · cases h
  · rename_i f hf
    have hEf := hE f (by simp [Call.operands, hf])
    split at h
    · rename_i g first captured hfv
      have hv := hEf _ hfv
      simp only [VR] at hv
      obtain ⟨g', xs, ys, e1, rfl, e3, e4⟩ := hv
      split at h
      · rename_i args ha
        cases h
        refine ⟨rfl, rfl, xs.toList ++ ((c.args.map ρ).toList ++ ys.toList), ?_, e3.append ((hargs _ ha).append e4)⟩
        simp only [execOp, ho, resolve, hf, e1, Deferred.ofValue, pure_bind, invoke]
        congr 2
        apply Array.ext'
        simp
      · cases h
    · rename_i l hfv
      have hv := hEf _ hfv
      simp only [VR] at hv
      obtain ⟨g', xs, ys, e1, e2, e3, e4⟩ := hv
      obtain ⟨lc, l1, rfl⟩ := e2
      split at h
      · rename_i args ha
        cases h
        simp only [VRs] at e3 e4
        have : xs = #[] := by simpa using e3
        subst this
        refine ⟨rfl, rfl, lc, (c.args.map ρ).toList, l1, ?_, hargs _ ha⟩
        simp only [execOp, ho, resolve, hf, e1, Deferred.ofValue, pure_bind, invoke]
        congr 2
        apply Array.ext'
        simp
      · cases h
    · cases h
  · cases h

/-- every operation -/
theorem aop_ok (hR : Rel P w0 σ nx H w) (hE : OpdOn σ E ρ o.op.operands.toList) {r : OpR} (h : aop P E H nx o.op = some r) : OpOk P w0 σ H nx w r (execOp ρ o) := by
  unfold aop cop at h
  cases ho : o.op with
  | move x => rw [ho] at h hE; exact opMove_ok hR hE h (by simp [execOp, ho])
  | assign x => rw [ho] at h hE; exact opMove_ok hR hE h (by simp [execOp, ho])
  | pick c a b => rw [ho] at h hE; exact opPick_ok hR hE h ho
  | alloc t => rw [ho] at h hE; exact opAlloc_ok hR h ho
  | box t x => rw [ho] at h hE; exact opBox_ok hR hE h ho
  | build t ps => rw [ho] at h hE; exact opBuild_ok hR hE h ho
  | buildSlice t n ps => rw [ho] at h hE; exact opBuildSlice_ok hR hE h ho
  | load t a =>
    rw [ho] at h hE
    simp only [cLoad] at h
    split at h
    · rename_i h1
      split at h
      · rename_i n hn; exact loadN_ok hR hE h1 hn h ho
      · cases h
    · rename_i h1; exact load1_ok hR hE h1 h ho
    · cases h
  | store t a x => rw [ho] at h hE; exact opStore_ok hR hE h ho
  | nilCheck x => rw [ho] at h hE; exact opNil_ok hR hE h ho
  | binOp op t x y z => rw [ho] at h hE; exact opBin_ok hR hE h ho
  | unOp op t x => rw [ho] at h hE; exact opUn_ok hR hE h ho
  | convert s d x => rw [ho] at h hE; exact opConv_ok hR hE h ho
  | makeInterface t x => rw [ho] at h hE; exact opIface_ok hR hE h ho
  | makeFunc fn a b =>
    rw [ho] at h hE
    have hE' : OpdOn σ E ρ (a.toList ++ b.toList) := by simpa [Op.operands] using hE
    cases fn with
    | yield l => cases h
    | _ => exact opFunc_ok hR (fun _ e => by cases e) hE' h ho
  | makeMap t x => rw [ho] at h hE; exact opMakeMap_ok hR (by simpa [Op.operands] using hE) h ho
  | makeSlice t l c => rw [ho] at h hE; exact opMakeSlice_ok hR hE h ho
  | slice t x lo hi mx =>
    rw [ho] at h hE
    exact opSlice_ok hR (by simpa [Op.operands] using hE) h ho
  | fieldAddr t x f =>
    rw [ho] at h hE
    simp only [cFieldAddr] at h
    split at h
    · rename_i fs ht
      split at h
      · rename_i off n hp; exact faddr_ok hR hE ht hp h ho
      · cases h
    · cases h
  | field t x f => rw [ho] at h hE; exact opField_ok hR hE h ho
  | indexAddr t x i => rw [ho] at h hE; exact idxOp_ok hR hE h ho
  | index t x i => rw [ho] at h hE; exact indexOp_ok hR hE h ho
  | lookup t x k ok => rw [ho] at h hE; exact opLookup_ok hR hE h ho
  | mapUpdate t m k v => rw [ho] at h hE; exact opMapPut_ok hR hE h (.inl ho)
  | insert t m k v => rw [ho] at h hE; exact opMapPut_ok hR hE h (.inr ho)
  | range t x => rw [ho] at h hE; exact opRange_ok hR hE h ho
  | next x s => rw [ho] at h hE; exact opNext_ok hR hE h ho
  | extract x i => rw [ho] at h hE; exact opExtract_ok hR hE h ho
  | call c => rw [ho] at h hE; exact opCall_ok hR hE h ho
  | _ => rw [ho] at h; cases h

end
end Go.SK

/- Code, first part: one operation at the machine, and regions in their order. -/
namespace Go.SK
open Go

def Wide (F : Fence) : Prop := F = Fence.wide ∨ ∃ l, F = Fence.wide.inRound l
theorem Wide.fn {F : Fence} (h : Wide F) (f : FuncId) : F.fn f := by rcases h with rfl | ⟨l, rfl⟩ <;> trivial
theorem Wide.depth {F : Fence} (h : Wide F) : F.depth.isSome = true → 1 ≤ 0 := by rcases h with rfl | ⟨l, rfl⟩ <;> (intro e; cases e)
theorem Wide.calls {F : Fence} (h : Wide F) {n : Nat} {P : Program} {f : FuncId} {args : Array Value} {w : World} {R : Ending → World → Prop} (k : CallsIn Fence.wide n P f args w R) : CallsIn F n P f args w R := by
  rcases h with rfl | ⟨l, rfl⟩
  · exact k
  · exact CallsIn.inRound l k
  where CallsIn.inRound {F : Fence} {n : Nat} {P : Program} {f : FuncId} {args : Array Value} {w : World} {R : Ending → World → Prop} (l : Nat) (h : CallsIn F n P f args w R) : CallsIn (F.inRound l) n P f args w R := h

/-- how a call ends -/
def Ends (P : Program) (w0 : World) (σ : Sg) (v : AV) (H' : Heap) (nx' : Nat) (e : Ending) (w' : World) : Prop :=
  ∃ τ u, e = .returned u ∧ Sg.le σ τ ∧ VR τ v u ∧ Rel P w0 τ nx' H' w'

/-- what is evaluated of calls is what the machine does -/
def CallsOk (P : Program) (w0 : World) (cA : FuncId → List AV → Heap → Nat → Option (AV × Heap × Nat)) : Prop :=
  ∀ f args H nx v H' nx', cA f args H nx = some (v, H', nx') → ∀ (σ : Sg) (w : World) (as : List Value), Rel P w0 σ nx H w → VRs σ args as →
    (callFunc f as.toArray).run P w = .ok (.enter f as.toArray) w ∧ CallsIn Fence.wide 0 P f as.toArray w (Ends P w0 σ v H' nx')

/-- what is answered of a call (in place of a walk) is what the machine does: the function is entered, or a stand-in answers -/
def FoundOk (P : Program) (w0 : World) (cA : FuncId → List AV → Heap → Nat → Option (AV × Heap × Nat)) : Prop :=
  ∀ f args H nx v H' nx', cA f args H nx = some (v, H', nx') → ∀ (σ : Sg) (w : World) (as : List Value), Rel P w0 σ nx H w → VRs σ args as →
    ((callFunc f as.toArray).run P w = .ok (.enter f as.toArray) w ∧ CallsIn Fence.wide 0 P f as.toArray w (Ends P w0 σ v H' nx')) ∨
    ∃ u w', (callFunc f as.toArray).run P w = .ok (.value u) w' ∧ Ends P w0 σ v H' nx' (.returned u) w'
theorem CallsOk.found {P : Program} {w0 : World} {cA : FuncId → List AV → Heap → Nat → Option (AV × Heap × Nat)} (h : CallsOk P w0 cA) : FoundOk P w0 cA :=
  fun f args H nx v H' nx' h' σ w as hR hv => .inl (h f args H nx v H' nx' h' σ w as hR hv)

def RoundsOk (P : Program) (w0 : World) (rA : Nat → List AV → Heap → Nat → Option (AV × Heap × Nat)) : Prop :=
  ∀ l args H nx v H' nx', rA l args H nx = some (v, H', nx') → ∀ (σ : Sg) (w : World) (as : List Value) (lc : Loc), Rel P w0 σ nx H w → VRs σ args as → σ l = some lc →
    ∃ f tmps assign body, (Instr.yield lc.blk as.toArray).run P w = .ok (.round lc.blk f tmps assign body) w ∧
      ∀ F, Wide F → RoundIn F 0 P lc.blk f tmps assign body w (Ends P w0 σ v H' nx')

theorem doneOp_eq {P : Program} {rec : Rec} {orc : Orc} {d : Option Tmp} {loc : List (Nat × AV)} {k : List (Nat × AV) → Heap → Nat → OpsR} {r : Option OpR} :
    doneOp P rec orc d loc k r = goOn d loc k (stepVal P rec orc r) := by
  cases r with
  | none => rfl
  | some r => cases r <;> rfl

theorem goOn_some {d : Option Tmp} {loc : List (Nat × AV)} {k : List (Nat × AV) → Heap → Nat → OpsR} {r : Option (AV × Heap × Nat)} {x : List (Nat × AV) × Heap × Nat} (h : goOn d loc k r = some x) :
    ∃ v H nx, r = some (v, H, nx) ∧ k (putD loc d v) H nx = some x := by
  cases r with
  | none => cases h
  | some r => obtain ⟨v, H, nx⟩ := r; exact ⟨v, H, nx, rfl, h⟩

section
variable {P : Program} {w0 : World} {rec : Rec} {orc : Orc} {F : Fence}

theorem opIn_ok (hF : Wide F) (hC : FoundOk P w0 (callA P rec orc)) (hY : RoundsOk P w0 (roundA P rec)) {o : Oper} {E : Env} {H H' : Heap} {nx nx' : Nat} {v : AV} {σ : Sg} {a : Act} {w : World}
    (hv : stepVal P rec orc (aop P E H nx o.op) = some (v, H', nx')) (hR : Rel P w0 σ nx H w) (hE : OpdOn σ E a.eval o.op.operands.toList) {K : Act → World → Prop} {Q : Exit → Act → World → Prop}
    (hK : ∀ τ u w', Sg.le σ τ → VR τ v u → Rel P w0 τ nx' H' w' → K (a.put o.dst u) w') : o.wpIn F 0 P a w K Q := by
  refine ⟨fun f _ => hF.fn f, ?_⟩
  cases hop : aop P E H nx o.op with
  | none => rw [hop] at hv; cases hv
  | some r =>
  rw [hop] at hv
  have hnd : ∀ c, o.op ≠ .defer c := by intro c e; rw [e] at hop; cases hop
  rw [Oper.semAt_eq _ _ _ hnd]
  have hs := aop_ok hR hE hop
  cases r with
  | val v' H1 nx1 =>
    cases hv
    obtain ⟨τ, u, w', n, h1, h2, h3, h4, h5⟩ := hs
    rw [h2]
    rcases h3 with rfl | ⟨rfl, rfl⟩
    · exact hK τ u w' h1 h4 h5
    · exact hK τ _ w' h1 h4 h5
  | call f args H1 nx1 =>
    obtain ⟨rfl, rfl, as, h1, h2⟩ := hs
    rcases hC _ _ _ _ _ _ _ hv σ w as hR h2 with ⟨c1, c2⟩ | ⟨u, w', c1, τ, u', c2, k1, k2, k3⟩
    · rw [h1, c1]
      refine ⟨hF.depth, CallsIn.mono (hF.calls c2) ?_⟩
      rintro e w' ⟨τ, u, rfl, k1, k2, k3⟩
      exact hK τ u w' k1 k2 k3
    · rw [h1, c1]
      cases c2
      exact hK τ u w' k1 k2 k3
  | yield l args H1 nx1 =>
    obtain ⟨rfl, rfl, lc, as, h0, h1, h2⟩ := hs
    obtain ⟨f, tmps, assign, body, c1, c2⟩ := hY _ _ _ _ _ _ _ hv σ w as lc hR h2 h0
    rw [h1, c1]
    refine ⟨hF.depth, RoundIn.mono (c2 F hF) ?_⟩
    rintro e w' ⟨τ, u, rfl, k1, k2, k3⟩
    exact hK τ u w' k1 k2 k3

theorem look_nil {tm : T AV} {t : Nat} : look tm t [] = tm.get t := rfl
theorem look_cons {tm : T AV} {t s : Nat} {v : AV} {l : List (Nat × AV)} : look tm t ((s, v) :: l) = if s = t then some v else look tm t l := by
  show (Bool.rec (motive := fun _ => Option AV) (look tm t l) (some v) (Nat.beq s t)) = _
  by_cases h : s = t
  · subst h; rw [if_pos rfl]; simp [Nat.beq_refl]
  · rw [if_neg h]
    have : Nat.beq s t = false := by
      cases hb : Nat.beq s t with
      | false => rfl
      | true => exact absurd (Nat.eq_of_beq_eq_true hb) h
    rw [this]

theorem putD_env {σ : Sg} {tm : T AV} {loc : List (Nat × AV)} {a : Act} {d : Option Tmp} {v : AV} {u : Value} (h : EnvR σ ⟨loc, tm⟩ a.tmps) (hv : VR σ v u) (hd : ∀ t, d = some t → t < a.tmps.size) :
    EnvR σ ⟨putD loc d v, tm⟩ (a.put d u).tmps := by
  cases d with
  | none => exact h
  | some d =>
    intro t b hb
    simp only [putD] at hb
    rw [look_cons] at hb
    simp only [Act.put]
    split at hb
    · rename_i e
      subst e
      cases hb
      exact ⟨u, by rw [Array.getElem?_setIfInBounds_self_of_lt (hd d rfl)], hv⟩
    · rename_i e
      obtain ⟨x, x1, x2⟩ := h t b hb
      exact ⟨x, by rw [Array.getElem?_setIfInBounds_ne e]; exact x1, x2⟩

theorem put_size (a : Act) (d : Option Tmp) (u : Value) : (a.put d u).tmps.size = a.tmps.size := by cases d <;> simp [Act.put]
theorem put_defers (a : Act) (d : Option Tmp) (u : Value) : (a.put d u).defers = a.defers := by cases d <;> rfl

theorem EnvR.mono' {σ τ : Sg} {E : Env} {tmps : Array Value} (h : EnvR σ E tmps) (k : σ.le τ) : EnvR τ E tmps :=
  fun t b hb => let ⟨v, h1, h2⟩ := h t b hb; ⟨v, h1, h2.mono k⟩

theorem wanted_ok {σ : Sg} {E : Env} {a : Act} {ops : Array Oper} {o : Oper} {j : Nat} {wt q : Bool} (hg : o.guard = some (j, wt)) (h : wantedA E ops.toList (some (j, wt)) = some q)
    (hE : ∀ (p : Oper) (d : Nat) (x : AV), ops[j]? = some p → p.dst = some d → look E.tm d E.loc = some x → ∃ u, a.tmps[d]? = some u ∧ VR σ x u) :
    Region.wanted o (yielded ops a.tmps) = q := by
  simp only [wantedA] at h
  split at h
  · rename_i p hp
    rw [nth_eq, Array.getElem?_toList] at hp
    split at h
    · rename_i d hd
      split at h
      · rename_i b hb
        cases h
        obtain ⟨u, u1, u2⟩ := hE p d _ hp hd hb
        simp only [VR] at u2
        subst u2
        simp only [Region.wanted, hg, yielded, hp, Option.bind_some, hd, u1]
        cases b <;> cases wt <;> rfl
      · rename_i l hb
        cases h
        obtain ⟨u, u1, u2⟩ := hE p d _ hp hd hb
        simp only [VR] at u2
        obtain ⟨xs, rfl, _⟩ := u2
        simp only [Region.wanted, hg, yielded, hp, Option.bind_some, hd, u1]
        cases wt <;> rfl
      · cases h
    · cases h
  · cases h

/-- the slots that are written are there -/
theorem dstsOk_mem {nt : Nat} : ∀ {l : List Oper}, dstsOk nt l = true → ∀ o ∈ l, ∀ t, o.dst = some t → t < nt
  | [], _, o, ho, _, _ => by cases ho
  | p :: l, h, o, ho, t, ht => by
    simp only [dstsOk] at h
    rcases List.mem_cons.1 ho with rfl | ho
    · rw [ht] at h
      simp only [Bool.and_eq_true, Nat.blt_eq] at h
      exact h.1
    · split at h
      · simp only [Bool.and_eq_true] at h; exact dstsOk_mem h.2 o ho t ht
      · exact dstsOk_mem h o ho t ht

theorem opsA_cons {all : List Oper} {tm : T AV} {o : Oper} {l : List Oper} {loc : List (Nat × AV)} {H : Heap} {nx : Nat} : opsA P rec orc all tm (o :: l) loc H nx = stepOp P rec orc all tm o (opsA P rec orc all tm l) loc H nx := rfl

theorem region_ok (hF : Wide F) (hC : FoundOk P w0 (callA P rec orc)) (hY : RoundsOk P w0 (roundA P rec)) {ops : Array Oper} {tm : T AV} {nt : Nat} {Q : Exit → Act → World → Prop} {out : List (Nat × AV) × Heap × Nat} {ds : List Deferred} {σ0 : Sg}
    (hd : dstsOk nt ops.toList = true) (hQ : ∀ τ a w, Sg.le σ0 τ → Rel P w0 τ out.2.2 out.2.1 w → EnvR τ ⟨out.1, tm⟩ a.tmps → a.tmps.size = nt → a.defers = ds → Q .normal a w) :
    ∀ (l : List Oper) (i : Nat), ops.toList.drop i = l → ∀ (loc : List (Nat × AV)) (H : Heap) (nx : Nat), opsA P rec orc ops.toList tm l loc H nx = some out →
    ∀ (σ : Sg) (a : Act) (w : World), Sg.le σ0 σ → Rel P w0 σ nx H w → EnvR σ ⟨loc, tm⟩ a.tmps → a.tmps.size = nt → a.defers = ds → wpOpsIn F 0 P ops Q (List.range' i l.length) a w
  | [], i, _, loc, H, nx, h, σ, a, w, hs, hR, hE, hn, hdf => by
    have : out = (loc, H, nx) := by
      have h' : some (loc, H, nx) = some out := h
      exact (Option.some.inj h').symm
    subst this
    exact hQ σ a w hs hR hE hn hdf
  | o :: l, i, hi, loc, H, nx, h, σ, a, w, hs, hR, hE, hn, hdf => by
    have hoi : ops[i]? = some o := by
      rw [← Array.getElem?_toList, ← List.head?_drop, hi]; rfl
    have hmem : o ∈ ops.toList := List.mem_of_getElem? (by rw [Array.getElem?_toList]; exact hoi)
    have hl : ops.toList.drop (i + 1) = l := by rw [← List.tail_drop, hi]; rfl
    have hdst := dstsOk_mem hd o hmem
    rw [opsA_cons] at h
    simp only [List.length_cons, List.range'_succ, wpOpsIn, hoi]
    have next : ∀ (v : AV) (H' : Heap) (nx' : Nat), opsA P rec orc ops.toList tm l (putD loc o.dst v) H' nx' = some out → ∀ (τ : Sg) (u : Value) (w' : World), Sg.le σ τ → VR τ v u → Rel P w0 τ nx' H' w' →
        wpOpsIn F 0 P ops Q (List.range' (i + 1) l.length) (a.put o.dst u) w' := by
      intro v H' nx' h' τ u w' k1 k2 k3
      exact region_ok hF hC hY hd hQ l (i + 1) hl _ _ _ h' τ _ w' (Sg.le_trans hs k1) k3 (putD_env (hE.mono' k1) k2 (fun t ht => by rw [hn]; exact hdst t ht)) (by rw [put_size, hn]) (by rw [put_defers, hdf])
    have run : doneOp P rec orc o.dst loc (opsA P rec orc ops.toList tm l) (aop P ⟨loc, tm⟩ H nx o.op) = some out → o.wpIn F 0 P a w (wpOpsIn F 0 P ops Q (List.range' (i + 1) l.length)) Q := by
      intro h
      rw [doneOp_eq] at h
      obtain ⟨v, H', nx', h1, h2⟩ := goOn_some h
      exact opIn_ok hF hC hY h1 hR (OpdOn.of_env hE _) (next v H' nx' h2)
    cases hg : o.guard with
    | none =>
      simp only [stepOp, cstep, hg] at h
      have : Region.wanted o (yielded ops a.tmps) = true := by simp [Region.wanted, hg]
      rw [if_pos this]
      exact run h
    | some g =>
      simp only [stepOp, cstep, hg] at h
      unfold guarded at h
      have hw : ∀ q, wantedA ⟨loc, tm⟩ ops.toList (some g) = some q → Region.wanted o (yielded ops a.tmps) = q := by
        intro q hq
        exact wanted_ok (σ := σ) (j := g.1) (wt := g.2) hg hq fun p d x _ _ hb => hE d _ hb
      split at h
      · rename_i hq
        rw [if_pos (hw _ hq)]
        exact run h
      · rename_i hq
        rw [if_neg (by rw [hw _ hq]; simp)]
        exact ⟨fun f _ => hF.fn f, next undef H nx h σ Go.undef w (Sg.le_refl _) (VR.undef σ) hR⟩
      · cases h

end
end Go.SK

/- Code, second part: a function's call. -/
namespace Go.SK
open Go

/-- the marks of a frame's loops -/
def MarksR (σ : Sg) : List Nat → List Deferred → Prop
  | [], ds => ds = []
  | m :: ms, ds => ∃ l r, σ m = some l ∧ ds = { target := .collected l.blk, args := #[] } :: r ∧ MarksR σ ms r
theorem MarksR.mono {σ τ : Sg} (h : σ.le τ) : ∀ {ms : List Nat} {ds : List Deferred}, MarksR σ ms ds → MarksR τ ms ds
  | [], _, k => k
  | _ :: _, _, k => by
    simp only [MarksR] at k ⊢
    obtain ⟨l, r, h1, h2, h3⟩ := k
    exact ⟨l, r, h _ _ h1, h2, h3.mono h⟩

/-- the fence of a frame: of a function's activation, or of a round of a loop -/
def FenceFor (σ : Sg) (rd : Option Nat) (F : Fence) : Prop :=
  match rd with
  | none => F = Fence.wide
  | some l => ∃ lc, σ l = some lc ∧ F = Fence.wide.inRound lc.blk
theorem FenceFor.wide {σ : Sg} {rd : Option Nat} {F : Fence} (h : FenceFor σ rd F) : Wide F := by
  cases rd with
  | none => exact .inl h
  | some l => obtain ⟨lc, _, h⟩ := h; exact .inr ⟨_, h⟩
theorem FenceFor.mono {σ τ : Sg} {rd : Option Nat} {F : Fence} (h : FenceFor σ rd F) (k : σ.le τ) : FenceFor τ rd F := by
  cases rd with
  | none => exact h
  | some l => obtain ⟨lc, h1, h2⟩ := h; exact ⟨lc, k _ _ h1, h2⟩

def exitOf : AExit → Exit
  | .normal => .normal
  | .exit id => .exit id
  | .goto l => .goto l
  | .ret => .ret

/-- a frame's state -/
structure Frm (P : Program) (w0 : World) (σ : Sg) (fn : FuncId) (st : St) (a : Act) (w : World) : Prop where
  rel : Rel P w0 σ st.nx st.H w
  tm : TmR σ st.tm a.tmps
  size : a.tmps.size = ntOf P fn
  marks : MarksR σ st.marks a.defers

def Post (P : Program) (w0 : World) (σ : Sg) (fn : FuncId) (e : AExit) (st : St) : Exit → Act → World → Prop :=
  fun x a w => x = exitOf e ∧ ∃ τ, Sg.le σ τ ∧ Frm P w0 τ fn st a w

theorem Post.weak {P : Program} {w0 : World} {σ τ : Sg} {fn : FuncId} {e : AExit} {st : St} {x : Exit} {a : Act} {w : World} (h : Sg.le σ τ) (k : Post P w0 τ fn e st x a w) : Post P w0 σ fn e st x a w := by
  obtain ⟨k1, u, k2, k3⟩ := k
  exact ⟨k1, u, Sg.le_trans h k2, k3⟩

def LoopIn (F : Fence) (P : Program) (c : Code) (Q : Exit → Act → World → Prop) (a : Act) (w : World) : Prop :=
  ∀ (b : Frame) (k : List Item) (cs : List Frame), b.roundOf = F.round → F.fn b.fn → F.room (cs.length + 1 + 0) →
    ∃ e a' w', Q e a' w' ∧ ArrivesIn (Machine.fenced P F) P (lone (b.atR a (.code c :: .inLoop c :: k)) cs w) b k cs e a' w'

def ExecOk (P : Program) (w0 : World) (rec : Rec) : Prop :=
  ∀ rd fn c st e st', rec rd fn c st = some (e, st') → ∀ (σ : Sg) (a : Act) (w : World) (F : Fence), FenceFor σ rd F → Frm P w0 σ fn st a w →
    c.wpIn F 0 P (Post P w0 σ fn e st') a w ∧ ∀ b, c = .loop b → LoopIn F P b (Post P w0 σ fn e st') a w

theorem tmOf_get : ∀ (l : List AV) (i : Nat) (t : T AV) (k : Nat), (tmOf l i t).get k = if i ≤ k ∧ k < i + l.length then l[k - i]? else t.get k
  | [], i, t, k => by
    have : ¬ (i ≤ k ∧ k < i + ([] : List AV).length) := by simp only [List.length_nil]; omega
    rw [if_neg this]; rfl
  | a :: l, i, t, k => by
    simp only [tmOf]
    rw [tmOf_get l (i + 1) (t.set i (some a)) k, T.get_set]
    simp only [List.length_cons]
    by_cases h1 : k = i
    · subst h1
      rw [if_neg (by omega), if_pos rfl, if_pos (by omega)]; simp
    · rw [if_neg h1]
      by_cases h2 : i + 1 ≤ k ∧ k < i + 1 + l.length
      · rw [if_pos h2, if_pos (by omega)]
        have : k - i = (k - (i + 1)) + 1 := by omega
        rw [this]; simp
      · rw [if_neg h2, if_neg (by omega)]

section
variable {P : Program} {w0 : World} {rec : Rec} {orc : Orc} {σ : Sg} {nx : Nat} {H : Heap} {w : World}

/-- an object that is no row is put -/
theorem putObj_rel (hR : Rel P w0 σ nx H w) {r : Nat} {l : Loc} {ao ao' : AObj} {ob : Obj} (ob' : Obj) (hg : H.get r = some ao) (l1 : σ r = some l) (hnc : ∀ cs e, ao ≠ .cells cs e .ro)
    (hw : w.heap[l.blk]? = some ob) (ho : ∀ w' : World, w'.heap[l.blk]? = some ob' → OR P σ w' l ao') : Rel P w0 σ nx (H.set r (some ao')) (w.putObj l.blk ob') := by
  have hlt : l.blk < w.heap.size := (Array.getElem?_eq_some_iff.1 hw).1
  exact hR.change hg l1 hnc ⟨rfl, rfl, rfl, World.putObj_size, fun k hk => World.putObj_heap_other hk⟩ (ho _ (World.putObj_heap_same hlt))

theorem loadA_ok (hR : Rel P w0 σ nx H w) {t : TypeId} {x : AV} {u : Value} {v : AV} (hx : VR σ x u) (h : loadA P t H x = some v) : ∃ y, (do loadVar t (← asAddr u) : Sem Value).run P w = .ok y w ∧ VR σ v y := by
  unfold loadA at h
  split at h
  · rename_i b off
    simp only [VR] at hx
    obtain ⟨l, l1, rfl⟩ := hx
    unfold loadT at h
    split at h
    · cases h
    · rename_i cs hcs
      obtain ⟨e, k, hg⟩ := getCells_get hcs
      obtain ⟨l', l3, hO⟩ := hR.dom b _ hg
      rw [l1] at l3; cases l3
      split at h
      · rename_i ht
        split at h
        · rename_i n hn
          simp only [Option.map_eq_some_iff] at h
          obtain ⟨r, hr, rfl⟩ := h
          obtain ⟨vs, u1, u2, u3, u4⟩ := hO.row hr
          refine ⟨.agg vs.toArray, ?_, ?_⟩
          · simp [asAddr, loadVar, run_isAgg ht, run_size hn, u1]
          · simp only [VR]; exact ⟨_, rfl, by simpa using u2, u3⟩
        · cases h
      · rename_i ht
        rw [nth_eq] at h
        obtain ⟨y, y1, y2⟩ := hO.cell h
        exact ⟨y, by simp [asAddr, loadVar, run_isAgg ht, y1], y2⟩
      · cases h
  · cases h

def resOf (tmps : Array Value) : ResultVar → Sem Value
  | .tmp t => pure (tmps.getD t Go.undef)
  | .cell a t => do loadVar t (← asAddr (tmps.getD a Go.undef))

theorem results_eq (fn : Func) (tmps : Array Value) : results fn tmps = (do
    let vs ← fn.results.mapM (resOf tmps)
    pure (if h : vs.size = 1 then vs[0] else .tuple vs)) := by
  unfold results
  congr 2

theorem resA_ok (hR : Rel P w0 σ nx H w) {tm : T AV} {tmps : Array Value} (hT : TmR σ tm tmps) : ∀ {rs : List ResultVar} {vs : List AV}, resA P H tm rs = some vs →
    ∃ us : List Value, (rs.mapM (resOf tmps)).run P w = .ok us w ∧ VRs σ vs us
  | [], vs, h => by simp [resA] at h; subst h; exact ⟨[], rfl, rfl⟩
  | r :: rs, vs, h => by
    simp only [resA] at h
    split at h
    · rename_i v hv
      split at h
      · rename_i l hl
        cases h
        obtain ⟨us, h1, h2⟩ := resA_ok hR hT hl
        have : ∃ u, (resOf tmps r).run P w = .ok u w ∧ VR σ v u := by
          cases r with
          | tmp t =>
            obtain ⟨u, u1, u2⟩ := hT t v hv
            refine ⟨u, ?_, u2⟩
            simp only [resOf, Sem.run_pure]
            rw [Array.getD_eq_getD_getElem?, u1]; rfl
          | cell a t =>
            simp only at hv
            split at hv
            · rename_i x hx
              obtain ⟨u, u1, u2⟩ := hT a x hx
              obtain ⟨y, y1, y2⟩ := loadA_ok hR u2 hv
              refine ⟨y, ?_, y2⟩
              simp only [resOf]
              rw [Array.getD_eq_getD_getElem?, u1]; exact y1
            · cases hv
        obtain ⟨u, u1, u2⟩ := this
        refine ⟨u :: us, ?_, by simp only [VRs]; exact ⟨u, us, rfl, u2, h2⟩⟩
        simp only [List.mapM_cons, Sem.run_bind, u1, Result.andThen_ok, h1, Sem.run_pure]
      · cases h
    · cases h

theorem results_ok (hR : Rel P w0 σ nx H w) {fn : Func} {tm : T AV} {tmps : Array Value} (hT : TmR σ tm tmps) {vs : List AV} (h : resA P H tm fn.results.toList = some vs) :
    ∃ u, (results fn tmps).run P w = .ok u w ∧ VR σ (resV vs) u := by
  obtain ⟨us, h1, h2⟩ := resA_ok hR hT h
  refine ⟨if h : us.toArray.size = 1 then us.toArray[0] else .tuple us.toArray, ?_, ?_⟩
  · rw [results_eq, Sem.run_bind, Array.mapM_eq_mapM_toList, Sem.run_map, h1]
    rfl
  · match vs, us, h2 with
    | [], us, h2 => simp only [VRs] at h2; subst h2; simp [resV, VR, VRs]
    | [v], us, h2 =>
      simp only [VRs] at h2
      obtain ⟨u, _, rfl, h3, rfl⟩ := h2
      simpa [resV] using h3
    | v :: v' :: l, us, h2 =>
      have h2' := h2
      simp only [VRs] at h2
      obtain ⟨u, _, rfl, h3, u', _, rfl, h4, h5⟩ := h2
      rw [dif_neg (by simp)]
      simp only [resV, VR]
      exact ⟨_, rfl, h2'⟩

theorem leaves_ok {fn : Func} {tmps : Array Value} {R : Ending → World → Prop} {H' : Heap} : ∀ {ms : List Nat} {H : Heap} {ds : List Deferred} {w : World}, unmark ms H = some H' → MarksR σ ms ds → Rel P w0 σ nx H w →
    (∀ w', Rel P w0 σ nx H' w' → ∃ v, (results fn tmps).run P w' = .ok v w' ∧ R (.returned v) w') → LeavesInM Fence.wide 0 P fn tmps R ds .returning w
  | [], H, ds, w, h, hm, hR, hk => by
    simp only [unmark] at h; cases h
    simp only [MarksR] at hm; subst hm
    exact hk w hR
  | m :: ms, H, ds, w, h, hm, hR, hk => by
    simp only [unmark] at h
    split at h
    · rename_i hg
      simp only [MarksR] at hm
      obtain ⟨l, r, l1, rfl, h3⟩ := hm
      obtain ⟨l', l2, hO⟩ := hR.dom m _ hg
      rw [l1] at l2; cases l2
      simp only [OR] at hO
      refine ⟨by simp, .inl ⟨l.blk, _, rfl, run_takeDeferred hO, ?_⟩⟩
      exact leaves_ok h h3 (putObj_rel hR _ hg l1 (fun _ _ e => by cases e) hO (fun w' hw' => by simp only [OR]; exact hw')) hk
    · cases h

def NamesOk (P : Program) : Prop := ∀ (f : FuncId) (fn : Func), P.funcs[f]? = some fn → fn.body.isSome → (fn.name == "runtime.NumGoroutine") = false

theorem enters {f : FuncId} {fn : Func} {c : Code} (hf : P.funcs[f]? = some fn) (hname : (fn.name == "runtime.NumGoroutine") = false) (hb : fn.body = some c) (args : Array Value) (w : World) :
    (callFunc f args).run P w = .ok (.enter f args) w := by
  have h1 : fn.name ≠ "runtime.NumGoroutine" := by simpa using hname
  simp [callFunc, hf, h1, hb]

theorem callA_ok (hN : NamesOk P) (hO : FoundOk P w0 orc) (hX : ExecOk P w0 rec) : FoundOk P w0 (callA P rec orc) := by
  intro f args H nx v H' nx' h σ w as hR hv
  unfold callA at h
  split at h
  · rename_i r hr
    cases h
    exact hO _ _ _ _ _ _ _ hr σ w as hR hv
  · left
    split at h
    · cases h
    · rename_i fn hf
      split at h
      · cases h
      · rename_i c hb
        refine ⟨enters hf (hN f fn hf (by rw [hb]; rfl)) hb _ _, ?_⟩
        split at h
        · cases h
        · cases h
        · rename_i e st hle hrec
          have hlen : as.length = args.length := hv.len
          have hle' : args.length ≤ fn.ntmps := by have := Nat.le_of_ble_eq_true hle; rwa [len_eq] at this
          refine callsIn_of_wp_marks hf hb trivial ?_ rfl
          refine wpIn_mono (hX _ _ _ _ _ _ hrec σ { tmps := as.toArray ++ Array.replicate (fn.ntmps - as.toArray.size) Go.undef, defers := [] } w Fence.wide rfl ⟨hR, ?_, ?_, rfl⟩).1 ?_
          · intro t b hb'
            simp only at hb'
            rw [tmOf_get] at hb'
            split at hb'
            · rename_i hc
              obtain ⟨u, u1, u2⟩ := hv.get _ _ hb'
              refine ⟨u, ?_, u2⟩
              simp only
              rw [Array.getElem?_append_left (by simp; omega)]
              simpa using u1
            · cases hb'
          · simp only [Array.size_append, Array.size_replicate, List.size_toArray, ntOf, hf]; omega
          · rintro x a w' ⟨rfl, τ, k1, k2⟩
            have fin : (match unmark st.marks st.H with
                | some H' => match resA P H' st.tm fn.results.toList with
                  | some vs => some (resV vs, H', st.nx)
                  | none => none
                | none => none) = some (v, H', nx') → LeavesInM Fence.wide 0 P fn a.tmps (Ends P w0 σ v H' nx') a.defers .returning w' := by
              intro h
              split at h
              · rename_i H2 hu
                split at h
                · rename_i vs hvs
                  cases h
                  refine leaves_ok hu k2.marks k2.rel fun w2 hw2 => ?_
                  obtain ⟨u, u1, u2⟩ := results_ok hw2 k2.tm hvs
                  exact ⟨u, u1, τ, u, rfl, k1, u2, hw2⟩
                · cases h
              · cases h
            cases e with
            | normal => exact fin h
            | ret => exact fin h
            | exit id => cases h
            | goto l => cases h

theorem callA_enter (hN : NamesOk P) (hX : ExecOk P w0 rec) : CallsOk P w0 (callA P rec noOrc) := by
  intro f args H nx v H' nx' h σ w as hR hv
  unfold callA at h
  split at h
  · rename_i r hr
    cases h
    cases hr
  · split at h
    · cases h
    · rename_i fn hf
      split at h
      · cases h
      · rename_i c hb
        refine ⟨enters hf (hN f fn hf (by rw [hb]; rfl)) hb _ _, ?_⟩
        split at h
        · cases h
        · cases h
        · rename_i e st hle hrec
          have hlen : as.length = args.length := hv.len
          have hle' : args.length ≤ fn.ntmps := by have := Nat.le_of_ble_eq_true hle; rwa [len_eq] at this
          refine callsIn_of_wp_marks hf hb trivial ?_ rfl
          refine wpIn_mono (hX _ _ _ _ _ _ hrec σ { tmps := as.toArray ++ Array.replicate (fn.ntmps - as.toArray.size) Go.undef, defers := [] } w Fence.wide rfl ⟨hR, ?_, ?_, rfl⟩).1 ?_
          · intro t b hb'
            simp only at hb'
            rw [tmOf_get] at hb'
            split at hb'
            · rename_i hc
              obtain ⟨u, u1, u2⟩ := hv.get _ _ hb'
              refine ⟨u, ?_, u2⟩
              simp only
              rw [Array.getElem?_append_left (by simp; omega)]
              simpa using u1
            · cases hb'
          · simp only [Array.size_append, Array.size_replicate, List.size_toArray, ntOf, hf]; omega
          · rintro x a w' ⟨rfl, τ, k1, k2⟩
            have fin : (match unmark st.marks st.H with
                | some H' => match resA P H' st.tm fn.results.toList with
                  | some vs => some (resV vs, H', st.nx)
                  | none => none
                | none => none) = some (v, H', nx') → LeavesInM Fence.wide 0 P fn a.tmps (Ends P w0 σ v H' nx') a.defers .returning w' := by
              intro h
              split at h
              · rename_i H2 hu
                split at h
                · rename_i vs hvs
                  cases h
                  refine leaves_ok hu k2.marks k2.rel fun w2 hw2 => ?_
                  obtain ⟨u, u1, u2⟩ := results_ok hw2 k2.tm hvs
                  exact ⟨u, u1, τ, u, rfl, k1, u2, hw2⟩
                · cases h
              · cases h
            cases e with
            | normal => exact fin h
            | ret => exact fin h
            | exit id => cases h
            | goto l => cases h

end
end Go.SK

