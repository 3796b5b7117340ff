/- What is evaluated is what the machine does, on every tape. Conditions: none. -/
import Derived.Test.YtlnhefoegllpmaaGreatDoorSdE
import Derived.Laws.StandIn
/- Code, eighth part: what is evaluated is what the machine does. -/
namespace Go.SK
open Go

section
variable {P : Program} {w0 : World} {rec : Rec} {orc : Orc} {kp : FuncId → Nat} {σ : Sg} {F : Fence} {a : Act} {w : World} {b : Frame} {k : List Item} {cs : List Frame}

theorem stepR_scope {c : Code} : step P (lone (b.atR a (.code (.scope c) :: k)) cs w) = .next (lone (b.atR a (.code c :: .inScope c :: k)) cs w) :=
  step_lone_go (by simp [stepG, stepG.exec, Frame.atR])
theorem stepR_inScope {c : Code} : step P (lone (b.atR a (.inScope c :: k)) cs w) = .next (lone (b.atR a k) cs w) :=
  step_lone_go (by simp [stepG, stepG.exec, Frame.atR])

/-- what follows from a part's end -/
theorem arrives_mono {I : Machine → Prop} {m : Machine} {Q Q' : Exit → Act → World → Prop} (h : ∃ e a' w', Q e a' w' ∧ ArrivesIn I P m b k cs e a' w') (hq : ∀ e a w, Q e a w → Q' e a w) :
    ∃ e a' w', Q' e a' w' ∧ ArrivesIn I P m b k cs e a' w' := let ⟨e, a', w', q, r⟩ := h; ⟨e, a', w', hq _ _ _ q, r⟩

theorem region_seq_ok (hF : Wide F) (hC : FoundOk P w0 (callA P rec orc)) (hY : RoundsOk P w0 (roundA P rec)) {id : Nat} {ops : Array Oper} {fn : FuncId} {mask : Nat} {st st' : St} {e : AExit}
    (h : regionA P rec orc fn mask ops.toList st = some (e, st')) (hf : Frm P w0 σ fn st a w) : (Code.region id ops false).wpIn F 0 P (Post P w0 σ fn e st') a w := by
  unfold regionA at h
  split at h
  · rename_i hd
    split at h
    · rename_i loc H nx ho
      cases h
      refine wpIn_region ?_
      have := region_ok (σ0 := σ) (ds := a.defers) (tm := st.tm) (Q := Post P w0 σ fn .normal { tm := flush mask loc st.tm, H, nx, marks := st.marks }) hF hC hY hd
        (fun τ a' w' k1 k2 k3 k4 k5 => ⟨rfl, τ, k1, k2, flush_ok k3, k4, by rw [k5]; exact hf.marks.mono k1⟩) ops.toList 0 rfl [] st.H st.nx ho σ a w (Sg.le_refl _) hf.rel hf.tm hf.size rfl
      rw [List.range_eq_range']
      simpa using this
    · cases h
  · cases h

theorem scope_ok (hX : ExecOk P w0 rec) {rd : Option Nat} {fn : FuncId} {body : Code} : ∀ (n : Nat) (c : Code) (st : St) (e : AExit) (st' : St), scopeA rec rd fn n body c st = some (e, st') →
    ∀ (σ : Sg) (a : Act) (w : World) (F : Fence), FenceFor σ rd F → Frm P w0 σ fn st a w → ∀ (b : Frame) (k : List Item) (cs : List Frame), b.roundOf = F.round → F.fn b.fn → F.room (cs.length + 1 + 0) →
    ∃ e' a' w', Post P w0 σ fn e st' e' a' w' ∧ ArrivesIn (Machine.fenced P F) P (lone (b.atR a (.code c :: .inScope body :: k)) cs w) b k cs e' a' w'
  | 0, c, st, e, st', h, _, _, _, _, _, _, _, _, _, _, _, _ => by cases h
  | n + 1, c, st, e, st', h, σ, a, w, F, hF, hf, b, k, cs, hro, hb, hr => by
    simp only [scopeA] at h
    cases hrec : rec rd fn c st with
    | none => rw [hrec] at h; cases h
    | some r =>
      obtain ⟨e1, st1⟩ := r
      rw [hrec] at h
      obtain ⟨e', a', w', ⟨rfl, τ, k1, k2⟩, harr⟩ := (hX _ _ _ _ _ _ hrec σ a w F hF hf).1 b (.inScope body :: k) cs hro hb hr
      cases e1 with
      | normal =>
        cases h
        exact ⟨.normal, a', w', ⟨rfl, τ, k1, k2⟩, StepsIn.trans harr (.one (fenced_calm hb hr rfl) stepR_inScope)⟩
      | exit id =>
        cases h
        exact ⟨.exit id, a', w', ⟨rfl, τ, k1, k2⟩, fun k' hk => harr.1 k' (by simp [exitTo, hk]), fun hr' hk => harr.2 hr' (by simp [exitTo, hk])⟩
      | ret =>
        cases h
        exact ⟨.ret, a', w', ⟨rfl, τ, k1, k2⟩, harr⟩
      | goto l =>
        simp only at h
        split at h
        · rename_i rest hl
          obtain ⟨e2, a2, w2, q2, r2⟩ := scope_ok hX n rest st1 e st' h τ a' w' F (hF.mono k1) k2 b k cs hro hb hr
          exact ⟨e2, a2, w2, q2.weak k1, .of_steps (harr.1 _ (by simp [gotoIn, hl])) r2⟩
        · rename_i hl
          cases h
          exact ⟨.goto l, a', w', ⟨rfl, τ, k1, k2⟩, fun k' hk => harr.1 k' (by simp [gotoIn, hl, hk]), fun hr' hk => harr.2 hr' (by simp [gotoIn, hl, hk])⟩

theorem loop_ok (hX : ExecOk P w0 rec) {rd : Option Nat} {fn : FuncId} {c : Code} {st st' : St} {e : AExit} (h : loopA rec rd fn c (.loop c) st = some (e, st')) (hF : FenceFor σ rd F) (hf : Frm P w0 σ fn st a w) : LoopIn F P c (Post P w0 σ fn e st') a w := by
  intro b k cs hro hb hr
  unfold loopA at h
  cases hrec : rec rd fn c st with
  | none => rw [hrec] at h; cases h
  | some r =>
    obtain ⟨e1, st1⟩ := r
    rw [hrec] at h
    obtain ⟨e', a', w', ⟨rfl, τ, k1, k2⟩, harr⟩ := (hX _ _ _ _ _ _ hrec σ a w F hF hf).1 b (.inLoop c :: k) cs hro hb hr
    cases e1 with
    | normal =>
      obtain ⟨e2, a2, w2, q2, r2⟩ := (hX _ _ _ _ _ _ h τ a' w' F (hF.mono k1) k2).2 c rfl b k cs hro hb hr
      exact ⟨e2, a2, w2, q2.weak k1, .of_steps (StepsIn.trans harr (.one (fenced_calm hb hr rfl) stepR_inLoop)) r2⟩
    | exit id => cases h; exact ⟨_, a', w', ⟨rfl, τ, k1, k2⟩, .pass (x := .inLoop c) rfl (fun _ _ => .inl (by simp [exitOf])) harr⟩
    | goto l => cases h; exact ⟨_, a', w', ⟨rfl, τ, k1, k2⟩, .pass (x := .inLoop c) rfl (fun _ _ => .inl (by simp [exitOf])) harr⟩
    | ret => cases h; exact ⟨_, a', w', ⟨rfl, τ, k1, k2⟩, .pass (x := .inLoop c) rfl (fun _ _ => .inl (by simp [exitOf])) harr⟩

theorem LoopIn.wp {c : Code} {Q : Exit → Act → World → Prop} (h : LoopIn F P c Q a w) : (Code.loop c).wpIn F 0 P Q a w := fun b k cs hro hb hr =>
  let ⟨e, a', w', q, r⟩ := h b k cs hro hb hr; ⟨e, a', w', q, .of_steps (.one (fenced_calm hb hr rfl) stepR_loop) r⟩

theorem body_ok (hm : P.follows .mixedOrders = true) (hN : NamesOk P) (hO : FoundOk P w0 orc) (hX : ExecOk P w0 rec) : ExecOk P w0 (fun rd fn c st => bodyA P rec orc kp rd fn c st) := by
  have hC := callA_ok hN hO hX
  have hB := callA_enter hN hX
  have hY := roundA_ok hX
  intro rd fn c st e st' h σ a w F hF hf
  have nol : ∀ {c : Code} {X : Code → Prop}, (∀ b, c ≠ .loop b) → ∀ b, c = .loop b → X b := fun h b e => (h b e).elim
  simp only [bodyA, ccode] at h
  cases c with
  | skip => cases h; exact ⟨wpIn_skip ⟨rfl, σ, Sg.le_refl _, hf⟩, nol (by simp)⟩
  | label l => cases h; exact ⟨wpIn_label ⟨rfl, σ, Sg.le_refl _, hf⟩, nol (by simp)⟩
  | region id ops draw =>
    refine ⟨?_, nol (by simp)⟩
    cases draw with
    | false => exact region_seq_ok hF.wide hC hY h hf
    | true =>
      simp only at h
      split at h
      · rename_i pl hpl; exact drawA_ok hm hF.wide hC hY hpl h hf
      · cases h
  | seq x y =>
    refine ⟨wpIn_seq ?_, nol (by simp)⟩
    simp only [seqA] at h
    cases hrec : rec rd fn x st with
    | none => rw [hrec] at h; cases h
    | some r =>
      obtain ⟨e1, st1⟩ := r
      rw [hrec] at h
      refine wpIn_mono (hX _ _ _ _ _ _ hrec σ a w F hF hf).1 ?_
      rintro x' a' w' ⟨rfl, τ, k1, k2⟩
      cases e1 with
      | normal => exact wpIn_mono (hX _ _ _ _ _ _ h τ a' w' F (hF.mono k1) k2).1 fun _ _ _ q => q.weak k1
      | exit id => cases h; exact ⟨rfl, τ, k1, k2⟩
      | goto l => cases h; exact ⟨rfl, τ, k1, k2⟩
      | ret => cases h; exact ⟨rfl, τ, k1, k2⟩
  | cond c x y =>
    refine ⟨?_, nol (by simp)⟩
    simp only [condA] at h
    have hE : EnvR σ ⟨[], st.tm⟩ a.tmps := hf.tm
    split at h
    · rename_i hc
      have := OpdOn.of_env hE [c] c (by simp) _ hc
      simp only [VR] at this
      exact wpIn_cond_true this (hX _ _ _ _ _ _ h σ a w F hF hf).1
    · rename_i hc
      have := OpdOn.of_env hE [c] c (by simp) _ hc
      simp only [VR] at this
      exact wpIn_cond_false this (hX _ _ _ _ _ _ h σ a w F hF hf).1
    · cases h
  | block id c =>
    refine ⟨wpIn_block ?_, nol (by simp)⟩
    simp only [blockA] at h
    cases hrec : rec rd fn c st with
    | none => rw [hrec] at h; cases h
    | some r =>
      obtain ⟨e1, st1⟩ := r
      rw [hrec] at h
      refine wpIn_mono (hX _ _ _ _ _ _ hrec σ a w F hF hf).1 ?_
      rintro x' a' w' ⟨rfl, τ, k1, k2⟩
      cases e1 with
      | normal => cases h; exact ⟨rfl, τ, k1, k2⟩
      | goto l => cases h; exact ⟨rfl, τ, k1, k2⟩
      | ret => cases h; exact ⟨rfl, τ, k1, k2⟩
      | exit id' =>
        simp only [exitOf, Exit.inBlock]
        simp only at h
        cases hb : Nat.beq id' id with
        | true =>
          rw [hb] at h
          cases h
          rw [if_pos (Nat.eq_of_beq_eq_true hb)]
          exact ⟨rfl, τ, k1, k2⟩
        | false =>
          rw [hb] at h
          cases h
          rw [if_neg (fun e => by subst e; simp at hb)]
          exact ⟨rfl, τ, k1, k2⟩
  | loop c =>
    have := loop_ok hX h hF hf
    exact ⟨this.wp, fun b e => by cases e; exact this⟩
  | rangeFunc g params assign body => exact ⟨rangeA_ok hX hB h hF hf, nol (by simp)⟩
  | exit id => cases h; exact ⟨wpIn_exit ⟨rfl, σ, Sg.le_refl _, hf⟩, nol (by simp)⟩
  | goto l => cases h; exact ⟨wpIn_goto ⟨rfl, σ, Sg.le_refl _, hf⟩, nol (by simp)⟩
  | ret => cases h; exact ⟨wpIn_ret ⟨rfl, σ, Sg.le_refl _, hf⟩, nol (by simp)⟩
  | scope body =>
    refine ⟨fun b k cs hro hb hr => ?_, nol (by simp)⟩
    obtain ⟨e', a', w', q, r⟩ := scope_ok hX 1000 body st e st' h σ a w F hF hf b k cs hro hb hr
    exact ⟨e', a', w', q, .of_steps (.one (fenced_calm hb hr rfl) stepR_scope) r⟩
  | refuse why => cases h

theorem exec_ok (hm : P.follows .mixedOrders = true) (hN : NamesOk P) (hO : FoundOk P w0 orc) : ∀ n, ExecOk P w0 (exec P orc kp n)
  | 0 => by intro rd fn c st e st' h; cases h
  | n + 1 => body_ok hm hN hO (exec_ok hm hN hO n)

theorem noOrc_ok : FoundOk P w0 noOrc := by intro f args H nx v H' nx' h; cases h

/-- A CALL: what is evaluated is what the machine does, on every tape. -/
theorem call_ok (hm : P.follows .mixedOrders = true) (hN : NamesOk P) (hO : FoundOk P w0 orc) (n : Nat) : CallsOk P w0 (call P orc kp n) :=
  callA_enter hN (exec_ok hm hN hO n)

end
end Go.SK

/- The frame rule: a call that is looked at alone leaves the caller's heap as it lay. -/
namespace Go.SK
open Go

section
variable {P : Program} {w0 : World} {σ : Sg} {nx : Nat} {H : Heap} {w w' : World}

/-- what a world's own blocks stand for is kept by whatever leaves them -/
theorem Rel.frame (h : Rel P w0 σ nx H w) (hb : RowKit.Below w.heap.size w w') : Rel P w0 σ nx H w' := by
  refine ⟨h.fresh, fun i o hi => ?_, h.inj, h.own, h.below.trans (hb.mono h.below.size)⟩
  obtain ⟨l, h1, h2⟩ := h.dom i o hi
  exact ⟨l, h1, h2.congr (Sg.le_refl _) (hb.block _ h2.lt)⟩

/-- nothing is known of the heap -/
theorem Rel.empty (P : Program) (w : World) : Rel P w (fun _ => none) 0 .e w :=
  ⟨fun _ _ => rfl, (fun i o h => by cases h), (fun i j oi oj li lj h => by cases h), (fun i o l h => by cases h), RowKit.Below.refl _ _⟩

/-- values without memory -/
def pure1 : AV → Bool
  | .bool _ => true
  | .int _ _ => true
  | .str _ => true
  | .nilp => true
  | .nils => true
  | .mp none => true
  | .nilf => true
  | .nili => true
  | _ => false
def pures : List AV → Bool
  | [] => true
  | a :: l => pure1 a && pures l

theorem pure1_VR {σ τ : Sg} {a : AV} {v : Value} (h : pure1 a = true) (k : VR σ a v) : VR τ a v := by
  cases a with
  | mp r => cases r <;> simp [pure1] at h; exact k
  | bool b => exact k
  | int k n => assumption
  | str s => exact k
  | nilp => exact k
  | nils => exact k
  | nilf => exact k
  | nili => exact k
  | _ => simp [pure1] at h
theorem pures_VRs {σ τ : Sg} : ∀ {as : List AV} {vs : List Value}, pures as = true → VRs σ as vs → VRs τ as vs
  | [], _, _, k => k
  | a :: as, vs, h, k => by
    simp only [pures, Bool.and_eq_true] at h
    simp only [VRs] at k ⊢
    obtain ⟨v, vs, rfl, h1, h2⟩ := k
    exact ⟨v, vs, rfl, pure1_VR h.1 h1, pures_VRs h.2 h2⟩

/-- a result without memory -/
def pureA : AV → Bool
  | .agg l => pures l
  | a => pure1 a
def pureAs : List AV → Bool
  | [] => true
  | a :: l => pureA a && pureAs l
def pureR : AV → Bool
  | .tup l => pureAs l
  | a => pureA a
theorem pureA_VR {σ τ : Sg} {a : AV} {v : Value} (h : pureA a = true) (k : VR σ a v) : VR τ a v := by
  cases a with
  | agg l =>
    simp only [VR] at k ⊢
    obtain ⟨xs, h1, h2, h3⟩ := k
    exact ⟨xs, h1, pures_VRs h h2, h3⟩
  | _ => exact pure1_VR h k
theorem pureAs_VRs {σ τ : Sg} : ∀ {as : List AV} {vs : List Value}, pureAs as = true → VRs σ as vs → VRs τ as vs
  | [], _, _, k => k
  | a :: as, vs, h, k => by
    simp only [pureAs, Bool.and_eq_true] at h
    simp only [VRs] at k ⊢
    obtain ⟨v, vs, rfl, h1, h2⟩ := k
    exact ⟨v, vs, rfl, pureA_VR h.1 h1, pureAs_VRs h.2 h2⟩
theorem pureR_VR {σ τ : Sg} {a : AV} {v : Value} (h : pureR a = true) (k : VR σ a v) : VR τ a v := by
  cases a with
  | tup l =>
    simp only [VR] at k ⊢
    obtain ⟨xs, h1, h2⟩ := k
    exact ⟨xs, h1, pureAs_VRs h h2⟩
  | _ => exact pureA_VR h k

/-- A CALL WITHOUT MEMORY, LOOKED AT ALONE -/
noncomputable def aloneA (cA : FuncId → List AV → Heap → Nat → Option (AV × Heap × Nat)) (fs : List Nat) : Orc := fun f args H nx =>
  match memT f fs && pures args with
  | true => match cA f args .e 0 with
    | some (v, _, _) => match pureR v with
      | true => some (v, H, nx)
      | false => none
    | none => none
  | false => none

theorem alone_ok {cA : FuncId → List AV → Heap → Nat → Option (AV × Heap × Nat)} (h : ∀ w, CallsOk P w cA) (fs : List Nat) : FoundOk P w0 (aloneA cA fs) := by
  intro f args H nx v H' nx' ha σ w as hR hv
  unfold aloneA at ha
  split at ha
  · rename_i hp
    rw [Bool.and_eq_true] at hp
    split at ha
    · rename_i v1 H1 n1 hc
      split at ha
      · rename_i hpr
        cases ha
        obtain ⟨c1, c2⟩ := h w f args .e 0 _ _ _ hc (fun _ => none) w as (Rel.empty P w) (pures_VRs hp.2 hv)
        refine .inl ⟨c1, CallsIn.mono c2 ?_⟩
        rintro e w' ⟨τ, u, rfl, k1, k2, k3⟩
        exact ⟨σ, u, rfl, Sg.le_refl _, pureR_VR hpr k2, hR.frame k3.below⟩
      · cases ha
    · cases ha
  · cases ha

/-- one oracle behind another -/
def orElse (a b : Orc) : Orc := fun f args H nx =>
  match a f args H nx with
  | some r => some r
  | none => b f args H nx
theorem orElse_ok {a b : Orc} (ha : FoundOk P w0 a) (hb : FoundOk P w0 b) : FoundOk P w0 (orElse a b) := by
  intro f args H nx v H' nx' h σ w as hR hv
  unfold orElse at h
  split at h
  · rename_i r hr; cases h; exact ha _ _ _ _ _ _ _ hr σ w as hR hv
  · exact hb _ _ _ _ _ _ _ h σ w as hR hv

end
end Go.SK

/- A call that reads one row of bytes and gives at most one new row, looked at alone. -/
namespace Go.SK
open Go

section
variable {P : Program} {w0 : World} {σ : Sg} {nx : Nat} {H : Heap} {w w' : World}

/-- an object that was laid in between -/
theorem Rel.add (h : Rel P w0 σ nx H w) (o : AObj) (l : Loc) (hnew : ∀ i oi li, H.get i = some oi → σ i = some li → li.blk ≠ l.blk) (hown : w0.heap.size ≤ l.blk) (ho : OR P (σ.ext nx l) w l o) :
    Rel P w0 (σ.ext nx l) (nx + 1) (H.set nx (some o)) w := by
  have hf : σ nx = none := h.fresh nx (Nat.le_refl _)
  have hle : σ.le (σ.ext nx l) := Sg.le_ext hf
  have old : ∀ i o', i ≠ nx → (H.set nx (some o)).get i = some o' → H.get i = some o' := fun i o' hne hi => by rwa [T.get_set_other _ _ hne] at hi
  have oldLoc : ∀ i o' li, H.get i = some o' → (σ.ext nx l) i = some li → σ i = some li := fun i o' li hi hli => by
    rwa [Sg.ext_other _ _ (Nat.ne_of_lt (h.lt_nx hi))] at hli
  refine ⟨fun i hi => ?_, fun i o' hi => ?_, fun i j oi oj li lj hi hj hli hlj e => ?_, fun i o' li hi hli hro => ?_, h.below⟩
  · rw [Sg.ext_other _ _ (by omega)]; exact h.fresh i (by omega)
  · by_cases c : i = nx
    · subst c
      rw [T.get_set_same] at hi; cases hi
      exact ⟨l, Sg.ext_same _ _ _, ho⟩
    · have hi' := old i o' c hi
      obtain ⟨li, h1, h2⟩ := h.dom i o' hi'
      exact ⟨li, hle _ _ h1, h2.congr hle rfl⟩
  · by_cases ci : i = nx <;> by_cases cj : j = nx
    · omega
    · subst ci
      rw [Sg.ext_same] at hli; cases hli
      have hj' := old j oj cj hj
      exact absurd e.symm (hnew j oj lj hj' (oldLoc j oj lj hj' hlj))
    · subst cj
      rw [Sg.ext_same] at hlj; cases hlj
      have hi' := old i oi ci hi
      exact absurd e (hnew i oi li hi' (oldLoc i oi li hi' hli))
    · have hi' := old i oi ci hi
      have hj' := old j oj cj hj
      exact h.inj i j oi oj li lj hi' hj' (oldLoc i oi li hi' hli) (oldLoc j oj lj hj' hlj) e
  · by_cases c : i = nx
    · subst c
      rw [Sg.ext_same] at hli; cases hli
      exact hown
    · have hi' := old i o' c hi
      exact h.own i o' li hi' (oldLoc i o' li hi' hli) hro

def pureRs : List AV → Bool
  | [] => true
  | a :: l => pureR a && pureRs l
theorem pureRs_VRs {σ τ : Sg} : ∀ {as : List AV} {vs : List Value}, pureRs as = true → VRs σ as vs → VRs τ as vs
  | [], _, _, k => k
  | a :: as, vs, h, k => by
    simp only [pureRs, Bool.and_eq_true] at h
    simp only [VRs] at k ⊢
    obtain ⟨v, vs, rfl, h1, h2⟩ := k
    exact ⟨v, vs, rfl, pureR_VR h.1 h1, pureRs_VRs h.2 h2⟩

/-- one row among the arguments -/
inductive Arg1 where
  | none
  | row (pre : List AV) (b o n : Nat) (c : Option Nat) (post : List AV)
def arg1 : List AV → Option Arg1
  | [] => some .none
  | .slc b o n c :: l => match pureRs l with
    | true => some (.row [] b o n c l)
    | false => Option.none
  | a :: l => match pureR a, arg1 l with
    | true, some .none => some .none
    | true, some (.row p b o n c q) => some (.row (a :: p) b o n c q)
    | _, _ => Option.none

theorem arg1_none : ∀ {l : List AV}, arg1 l = some .none → pureRs l = true
  | [], _ => rfl
  | a :: l, h => by
    unfold arg1 at h
    split at h
    · rename_i e; cases e
    · rename_i e; cases e; split at h <;> cases h
    · rename_i e; cases e
      split at h
      · rename_i h1 h2; simp only [pureRs, h1, arg1_none h2, Bool.and_self]
      · cases h
      · cases h
theorem arg1_row : ∀ {l : List AV} {p q : List AV} {b o n : Nat} {c : Option Nat}, arg1 l = some (.row p b o n c q) → l = p ++ .slc b o n c :: q ∧ pureRs p = true ∧ pureRs q = true
  | [], p, q, b, o, n, c, h => by cases h
  | a :: l, p, q, b, o, n, c, h => by
    unfold arg1 at h
    split at h
    · rename_i e; cases e
    · rename_i e; cases e
      split at h
      · rename_i hp; cases h; exact ⟨rfl, rfl, hp⟩
      · cases h
    · rename_i e; cases e
      split at h
      · cases h
      · rename_i h1 h2
        cases h
        obtain ⟨k1, k2, k3⟩ := arg1_row h2
        exact ⟨by rw [k1]; rfl, by simp only [pureRs, h1, k2, Bool.and_self], k3⟩
      · cases h

def resParts : AV → Bool × List AV
  | .tup l => (true, l)
  | a => (false, [a])
def resBack (t : Bool) (l : List AV) : AV :=
  match t, l with
  | true, l => .tup l
  | false, [a] => a
  | false, _ => undef

/-- what a callee that was looked at alone hands back -/
noncomputable def importA (H : Heap) (nx : Nat) (H1 : Heap) (v : AV) : Option (AV × Heap × Nat) :=
  match pureR v with
  | true => some (v, H, nx)
  | false => match v with
    | .slc k o m c => match H1.get k with
      | some (.cells cs e .own) => match pures cs with
        | true => some (.slc nx o m c, H.set nx (some (.cells cs e .own)), Nat.add nx 1)
        | false => none
      | _ => none
    | .tup l => match arg1 l with
      | some (.row p k o m c q) => match H1.get k with
        | some (.cells cs e .own) => match pures cs with
          | true => some (.tup (p ++ .slc nx o m c :: q), H.set nx (some (.cells cs e .own)), Nat.add nx 1)
          | false => none
        | _ => none
      | _ => none
    | _ => none

theorem VRs.mid {σ : Sg} : ∀ {p q : List AV} {a : AV} {us : List Value}, VRs σ (p ++ a :: q) us → ∃ u1 u u2, us = u1 ++ u :: u2 ∧ VRs σ p u1 ∧ VR σ a u ∧ VRs σ q u2
  | [], q, a, us, h => by
    simp only [List.nil_append, VRs] at h
    obtain ⟨u, u2, rfl, h1, h2⟩ := h
    exact ⟨[], u, u2, rfl, rfl, h1, h2⟩
  | x :: p, q, a, us, h => by
    simp only [List.cons_append, VRs] at h
    obtain ⟨u0, us, rfl, h1, h2⟩ := h
    obtain ⟨u1, u, u2, rfl, h3, h4, h5⟩ := VRs.mid h2
    exact ⟨u0 :: u1, u, u2, rfl, by simp only [VRs]; exact ⟨u0, u1, rfl, h1, h3⟩, h4, h5⟩

theorem slc_rename {σ τ : Sg} {k k' o m : Nat} {c : Option Nat} {u : Value} {l : Loc} (h1 : σ k = some l) (h2 : τ k' = some l) (h : VR σ (.slc k o m c) u) : VR τ (.slc k' o m c) u := by
  cases c <;> simp only [VR] at h ⊢
  · obtain ⟨l', c', e, h⟩ := h
    rw [h1] at e; cases e
    exact ⟨l, c', h2, h⟩
  · obtain ⟨l', e, h⟩ := h
    rw [h1] at e; cases e
    exact ⟨l, h2, h⟩

theorem importA_ok {H1 : Heap} {v v' : AV} {H' : Heap} {nx' nx1 : Nat} {τ : Sg} {u : Value} (hR : Rel P w0 σ nx H w) (hk : VR τ v u) (hR1 : Rel P w τ nx1 H1 w') (h : importA H nx H1 v = some (v', H', nx')) :
    Ends P w0 σ v' H' nx' (.returned u) w' := by
  have hfr := hR.frame hR1.below
  have row : ∀ {k : Nat} {cs : List AV} {e : TypeId}, H1.get k = some (.cells cs e .own) → pures cs = true → ∃ l, τ k = some l ∧ Rel P w0 (σ.ext nx l) (nx + 1) (H.set nx (some (.cells cs e .own))) w' := by
    intro k cs e hg hp
    obtain ⟨l, l1, l2⟩ := hR1.dom k _ hg
    have hown := hR1.own k _ l hg l1 (fun cs e h => by cases h)
    refine ⟨l, l1, hfr.add _ l (fun i oi li hi hli => ?_) (Nat.le_trans hR.below.size hown) ?_⟩
    · obtain ⟨l', q1, q2⟩ := hR.dom i oi hi
      rw [hli] at q1; cases q1
      have := q2.lt
      omega
    · simp only [OR] at l2 ⊢
      obtain ⟨xs, fz, a1, a2, a3, a4, a5⟩ := l2
      refine ⟨xs, fz, a1, a2, a3, fun i a hi => ?_, a5⟩
      obtain ⟨x, x1, x2⟩ := a4 i a hi
      have ha : pure1 a = true := by
        have : ∀ {l : List AV} {i : Nat}, pures l = true → l[i]? = some a → pure1 a = true := by
          intro l
          induction l with
          | nil => intro i _ h; simp at h
          | cons y l ih =>
            intro i hp h
            simp only [pures, Bool.and_eq_true] at hp
            cases i with
            | zero => simp at h; subst h; exact hp.1
            | succ i => exact ih hp.2 (by simpa using h)
        exact this hp hi
      exact ⟨x, x1, pure1_VR ha x2⟩
  unfold importA at h
  split at h
  · rename_i hp
    cases h
    exact ⟨σ, u, rfl, Sg.le_refl _, pureR_VR hp hk, hfr⟩
  · split at h
    · rename_i k o m c
      split at h
      · rename_i cs e hg
        split at h
        · rename_i hp
          cases h
          obtain ⟨l, l1, l2⟩ := row hg hp
          exact ⟨σ.ext nx l, u, rfl, Sg.le_ext (hR.fresh nx (Nat.le_refl _)), slc_rename l1 (Sg.ext_same _ _ _) hk, l2⟩
        · cases h
      · cases h
    · split at h
      · rename_i p k o m c q harg
        obtain ⟨rfl, hp, hq⟩ := arg1_row harg
        split at h
        · rename_i cs e hg
          split at h
          · rename_i hpc
            cases h
            obtain ⟨l, l1, l2⟩ := row hg hpc
            refine ⟨σ.ext nx l, u, rfl, Sg.le_ext (hR.fresh nx (Nat.le_refl _)), ?_, l2⟩
            simp only [VR] at hk ⊢
            obtain ⟨xs, rfl, h2⟩ := hk
            obtain ⟨u1, u0, u2, e1, e2, e3, e4⟩ := h2.mid
            refine ⟨xs, rfl, ?_⟩
            rw [e1]
            refine (pureRs_VRs hp e2).append ?_
            simp only [VRs]
            exact ⟨u0, u2, rfl, slc_rename l1 (Sg.ext_same _ _ _) e3, pureRs_VRs hq e4⟩
          · cases h
        · cases h
      · cases h
    · cases h

/-! values brought to their normal form (so that a call that is looked at alone is a closed term, and the same term whenever it comes) -/
section
variable {β : Type}
def fkind (k : IntKind) (f : IntKind → Option β) : Option β :=
  match k with
  | .i8 => f .i8 | .i16 => f .i16 | .i32 => f .i32 | .i64 => f .i64 | .u8 => f .u8 | .u16 => f .u16 | .u32 => f .u32 | .u64 => f .u64
theorem fkind_eq (k : IntKind) (f : IntKind → Option β) : fkind k f = f k := by cases k <;> rfl
def fnats : List Nat → (List Nat → Option β) → Option β
  | [], f => f []
  | x :: l, f => fnat x fun x => fnats l fun l => f (x :: l)
theorem fnats_eq : ∀ (l : List Nat) (f : List Nat → Option β), fnats l f = f l
  | [], _ => rfl
  | x :: l, f => by simp only [fnats, fnat_eq]; exact fnats_eq l _
def force1 (a : AV) (f : AV → Option β) : Option β :=
  match a with
  | .bool true => f (.bool true)
  | .bool false => f (.bool false)
  | .int k n => fkind k fun k => fint n fun n => f (.int k n)
  | .str s => fnats s fun s => f (.str s)
  | a => f a
theorem force1_eq (a : AV) (f : AV → Option β) : force1 a f = f a := by
  cases a with
  | bool b => cases b <;> rfl
  | int k n => simp only [force1, fkind_eq, fint_eq]
  | str s => simp only [force1, fnats_eq]
  | _ => rfl
def force1s : List AV → (List AV → Option β) → Option β
  | [], f => f []
  | a :: l, f => force1 a fun a => force1s l fun l => f (a :: l)
theorem force1s_eq : ∀ (l : List AV) (f : List AV → Option β), force1s l f = f l
  | [], _ => rfl
  | a :: l, f => by simp only [force1s, force1_eq]; exact force1s_eq l _
def forceA (a : AV) (f : AV → Option β) : Option β :=
  match a with
  | .agg l => force1s l fun l => f (.agg l)
  | a => force1 a f
theorem forceA_eq (a : AV) (f : AV → Option β) : forceA a f = f a := by
  unfold forceA
  split
  · rw [force1s_eq]
  · rw [force1_eq]
def forceAs : List AV → (List AV → Option β) → Option β
  | [], f => f []
  | a :: l, f => forceA a fun a => forceAs l fun l => f (a :: l)
theorem forceAs_eq : ∀ (l : List AV) (f : List AV → Option β), forceAs l f = f l
  | [], _ => rfl
  | a :: l, f => by simp only [forceAs, forceA_eq]; exact forceAs_eq l _
def foptn (c : Option Nat) (f : Option Nat → Option β) : Option β :=
  match c with
  | none => f none
  | some c => fnat c fun c => f (some c)
theorem foptn_eq (c : Option Nat) (f : Option Nat → Option β) : foptn c f = f c := by cases c <;> simp only [foptn, fnat_eq]
end

/-- A CALL THAT READS ONE ROW OF BYTES, LOOKED AT ALONE -/
noncomputable def localA (P : Program) (cA : FuncId → List AV → Heap → Nat → Option (AV × Heap × Nat)) (fs : List Nat) : Orc := fun f args H nx =>
  match memT f fs with
  | false => none
  | true => match arg1 args with
    | some .none => forceAs args fun args => match cA f args .e 0 with
      | some (v, H1, _) => importA H nx H1 v
      | none => none
    | some (.row p b o n c q) => match H.get b with
      | some (.cells cs e _) => match sizeT P e, part cs o n with
        | some 1, some r => match pures r with
          | true => forceAs p fun p => forceAs q fun q => force1s r fun r => fnat n fun n => foptn c fun c => fnat e fun e => match cA f (p ++ .slc 0 0 n c :: q) (.n .e (some (.cells r e .ro)) .e) 1 with
            | some (v, H1, _) => importA H nx H1 v
            | none => none
          | false => none
        | _, _ => none
      | _ => none
    | none => none

theorem local_ok {cA : FuncId → List AV → Heap → Nat → Option (AV × Heap × Nat)} (h : ∀ w, CallsOk P w cA) (fs : List Nat) : FoundOk P w0 (localA P cA fs) := by
  intro f args H nx v H' nx' ha σ w as hR hv
  unfold localA at ha
  split at ha
  · cases ha
  · split at ha
    · rename_i harg
      rw [forceAs_eq] at ha
      split at ha
      · rename_i v1 H1 n1 hc
        obtain ⟨c1, c2⟩ := h w f args .e 0 _ _ _ hc (fun _ => none) w as (Rel.empty P w) (pureRs_VRs (arg1_none harg) hv)
        refine .inl ⟨c1, CallsIn.mono c2 ?_⟩
        rintro e w' ⟨τ, u, rfl, k1, k2, k3⟩
        exact importA_ok hR k2 k3 ha
      · cases ha
    · rename_i p b o n c q harg
      obtain ⟨rfl, hp, hq⟩ := arg1_row harg
      split at ha
      · rename_i cs e ck hg
        split at ha
        · rename_i r hsz hr
          split at ha
          · rename_i hpr
            simp only [forceAs_eq, force1s_eq, fnat_eq, foptn_eq] at ha
            split at ha
            · rename_i v1 H1 n1 hc
              obtain ⟨l, l1, l2⟩ := hR.dom b _ hg
              simp only [OR] at l2
              obtain ⟨xs, fz, a1, a2, a3, a4, a5, a6, a7⟩ := l2
              obtain ⟨r1, rfl⟩ := part_eq hr
              -- the row as it is handed in
              let l0 : Loc := ⟨l.blk, l.off + o, l.size, l.esz⟩
              let σ0 : Sg := fun i => if i = 0 then some l0 else none
              have hR0 : Rel P w σ0 1 (.n .e (some (.cells ((cs.drop o).take n) e .ro)) .e) w := by
                have only : ∀ i oi, (T.n .e (some (AObj.cells ((cs.drop o).take n) e .ro)) .e : Heap).get i = some oi → i = 0 ∧ oi = .cells ((cs.drop o).take n) e .ro := by
                  intro i oi hi
                  cases i with
                  | zero => rw [T.get_n0] at hi; cases hi; exact ⟨rfl, rfl⟩
                  | succ i =>
                    rw [T.get_ns] at hi
                    split at hi <;> cases hi
                refine ⟨fun i hi => by simp only [σ0]; rw [if_neg (by omega)], fun i oi hi => ?_, fun i j oi oj li lj hi hj _ _ _ => ?_, fun i oi li hi _ hro => ?_, RowKit.Below.refl _ _⟩
                · obtain ⟨rfl, rfl⟩ := only i oi hi
                  refine ⟨l0, by simp [σ0], ?_⟩
                  simp only [OR]
                  refine ⟨xs, fz, a1, a2, ?_, fun i a hi => ?_, fun a ha' => a5 a (List.mem_of_mem_drop (List.mem_of_mem_take ha')), trivial, a7⟩
                  · have : ((cs.drop o).take n).length = n := by simp; omega
                    rw [this]
                    show l.off + o + n ≤ xs.size
                    omega
                  · rw [List.getElem?_take] at hi
                    split at hi
                    · rw [List.getElem?_drop] at hi
                      obtain ⟨x, x1, x2⟩ := a4 (o + i) a hi
                      have hpa : pure1 a = true := by
                        have : ∀ {l : List AV}, pures l = true → a ∈ l → pure1 a = true := by
                          intro l
                          induction l with
                          | nil => intro _ h; cases h
                          | cons y l ih =>
                            intro hp h
                            simp only [pures, Bool.and_eq_true] at hp
                            rcases List.mem_cons.1 h with rfl | h
                            · exact hp.1
                            · exact ih hp.2 h
                        refine this hpr (List.mem_of_getElem? (i := i) ?_)
                        rw [List.getElem?_take, if_pos (by assumption), List.getElem?_drop]; exact hi
                      refine ⟨x, ?_, pure1_VR hpa x2⟩
                      show xs[l.off + o + i]? = some x
                      rw [Nat.add_assoc]; exact x1
                    · cases hi
                · rw [(only i oi hi).1, (only j oj hj).1]
                · exact absurd (only i oi hi).2 (hro _ _)
              obtain ⟨u1, u, u2, rfl, e2, e3, e4⟩ := hv.mid
              have hv0 : VRs σ0 (p ++ .slc 0 0 n c :: q) (u1 ++ u :: u2) := by
                refine (pureRs_VRs hp e2).append ?_
                simp only [VRs]
                refine ⟨u, u2, rfl, ?_, pureRs_VRs hq e4⟩
                cases c <;> simp only [VR] at e3 ⊢
                · obtain ⟨l', c', q1, q2, q3, q4⟩ := e3
                  rw [l1] at q1; cases q1
                  exact ⟨l0, c', by simp [σ0], by rw [q2]; simp [Loc.at, l0], q3, by show l.off + o + 0 + c' * l.esz ≤ l.size; omega⟩
                · obtain ⟨l', q1, q2, q3⟩ := e3
                  rw [l1] at q1; cases q1
                  exact ⟨l0, by simp [σ0], by rw [q2]; simp [Loc.at, l0], q3⟩
              obtain ⟨c1, c2⟩ := h w f _ _ 1 _ _ _ hc σ0 w _ hR0 hv0
              refine .inl ⟨c1, CallsIn.mono c2 ?_⟩
              rintro e w' ⟨τ, u, rfl, k1, k2, k3⟩
              exact importA_ok hR k2 k3 ha
            · cases ha
          · cases ha
        · cases ha
      · cases ha
    · cases ha

end
end Go.SK

/- The stand-in for the search of a byte in a text. -/
namespace Go.SK
open Go

def idx (c : Nat) : List Nat → Nat → Option Nat
  | [], _ => none
  | x :: l, i => match Nat.beq x c with
    | true => some i
    | false => idx c l (Nat.add i 1)

theorem idx_ok {c : Nat} (hc : c < 256) : ∀ (l : List UInt8) (k : Nat) (g : Nat → UInt8), (∀ i x, l[i]? = some x → g (k + i) = x) →
    (List.range' k l.length).find? (fun i => g i == c.toUInt8) = idx c (l.map UInt8.toNat) k
  | [], k, g, _ => rfl
  | x :: l, k, g, h => by
    have h0 : g k = x := h 0 x (by simp)
    have hx : (x == c.toUInt8) = Nat.beq x.toNat c := by
      rw [Bool.eq_iff_iff]
      simp only [beq_iff_eq]
      constructor
      · intro e; subst e; simp; omega
      · intro e; have e := Nat.eq_of_beq_eq_true e; rw [← e]; simp
    simp only [List.length_cons, List.range'_succ, List.find?_cons, h0, List.map_cons, idx]
    rw [hx]
    cases Nat.beq x.toNat c with
    | true => rfl
    | false => exact idx_ok hc l (k + 1) g fun i y hy => by rw [Nat.add_assoc, Nat.add_comm 1 i]; exact h (i + 1) y (by simpa using hy)

def idxOrc (fid : FuncId) : Orc := fun f args H nx =>
  match Nat.beq f fid, args with
  | true, [.str s, .int .u8 (.ofNat c)] => match Nat.blt c 256 with
    | true => some (.int .i64 (match idx c s 0 with | some i => .ofNat i | none => .negSucc 0), H, nx)
    | false => none
  | _, _ => none

theorem idxOrc_ok {P : Program} {w0 : World} {fid : FuncId} (hrun : ∀ (args : Array Value) (w : World), (callFunc fid args).run P w = ((Extern.BytealgIndexByte.indexByte args).run P w).andThen fun v w' => .ok (.value v) w') :
    FoundOk P w0 (idxOrc fid) := by
  intro f args H nx v H' nx' h σ w as hR hv
  unfold idxOrc at h
  split at h
  · rename_i s c hf
    have := Nat.eq_of_beq_eq_true hf
    subst this
    split at h
    · rename_i hc
      cases h
      have hc' : c < 256 := by simpa using hc
      simp only [VRs, VR] at hv
      obtain ⟨_, _, rfl, ⟨t, rfl, rfl⟩, _, _, rfl, rfl, rfl⟩ := hv
      right
      have hfind : (List.range t.size).find? (fun i => t[i]! == c.toUInt8) = idx c (t.data.toList.map UInt8.toNat) 0 := by
        have hl : t.size = t.data.toList.length := by rw [Array.length_toList]; rfl
        rw [hl, List.range_eq_range']
        refine idx_ok hc' t.data.toList 0 (fun i => t[i]!) fun i x hx => ?_
        rw [Nat.zero_add]
        rw [Array.getElem?_toList] at hx
        have hlt : i < t.data.size := (Array.getElem?_eq_some_iff.1 hx).1
        have hlt' : i < t.size := hlt
        rw [getElem!_pos t i hlt']
        exact (Array.getElem?_eq_some_iff.1 hx).2
      refine ⟨.int .i64 (match idx c (t.data.toList.map UInt8.toNat) 0 with | some i => .ofNat i | none => .negSucc 0), w, ?_, σ, _, rfl, Sg.le_refl _, by simp only [VR], hR⟩
      have hib : Extern.BytealgIndexByte.indexByte #[.string t, .int .u8 (.ofNat c)] = (match (List.range t.size).find? fun i => t[i]! == c.toUInt8 with
          | some i => pure (goInt i)
          | none => pure (goInt (-1)) : Sem Value) := rfl
      have hl : [Value.string t, .int .u8 (.ofNat c)].toArray = #[.string t, .int .u8 (.ofNat c)] := rfl
      rw [hrun, hl, hib, hfind]
      cases idx c (t.data.toList.map UInt8.toNat) 0 <;> rfl
    · cases h
  · cases h

end Go.SK

