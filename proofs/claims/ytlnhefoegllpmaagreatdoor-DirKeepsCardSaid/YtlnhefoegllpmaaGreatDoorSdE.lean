/- Ranges over functions, regions that draw their order. Conditions: none. -/
import Derived.Test.YtlnhefoegllpmaaGreatDoorSdD
import Derived.RangeFuncNested
/- Code, third part: rounds and ranges over functions. -/
namespace Go.SK
open Go

section
variable {P : Program} {w0 : World} {rec : Rec} {orc : Orc} {σ : Sg} {nx : Nat} {H : Heap} {w : World}

theorem paramsOk_mem {nt : Nat} : ∀ {ps : List Tmp}, paramsOk nt ps = true → ∀ p ∈ ps, p < nt
  | [], _, p, hp => by cases hp
  | q :: ps, h, p, hp => by
    simp only [paramsOk, Bool.and_eq_true, Nat.blt_eq] at h
    rcases List.mem_cons.1 hp with rfl | hp
    · exact h.1
    · exact paramsOk_mem h.2 p hp

def setAll (xs : List (Tmp × Value)) (tmps : Array Value) : Array Value := xs.foldl (fun tmps (p : Tmp × Value) => tmps.setIfInBounds p.1 p.2) tmps

theorem bindParams_ok : ∀ {ps : List Tmp} {as : List AV} {us : List Value} {tm tm' : T AV} {tmps : Array Value}, bindParams ps as tm = some tm' → VRs σ as us → TmR σ tm tmps → (∀ p ∈ ps, p < tmps.size) →
    us.length = ps.length ∧ TmR σ tm' (setAll (ps.zip us) tmps) ∧ (setAll (ps.zip us) tmps).size = tmps.size
  | [], [], us, tm, tm', tmps, h, hv, ht, hp => by
    simp only [bindParams] at h; cases h
    simp only [VRs] at hv; subst hv
    exact ⟨rfl, ht, rfl⟩
  | [], _ :: _, us, tm, tm', tmps, h, hv, ht, hp => by simp only [bindParams] at h; cases h
  | _ :: _, [], us, tm, tm', tmps, h, hv, ht, hp => by simp only [bindParams] at h; cases h
  | p :: ps, a :: as, us, tm, tm', tmps, h, hv, ht, hp => by
    simp only [bindParams] at h
    simp only [VRs] at hv
    obtain ⟨u, us, rfl, h1, h2⟩ := hv
    have := bindParams_ok (tmps := tmps.setIfInBounds p u) h h2 (fun t b hb => by
      rw [T.get_set] at hb
      by_cases e : t = p
      · subst e
        rw [if_pos rfl] at hb; cases hb
        exact ⟨u, by rw [Array.getElem?_setIfInBounds_self_of_lt (hp t (by simp))], h1⟩
      · rw [if_neg e] at hb
        obtain ⟨v, v1, v2⟩ := ht t b hb
        exact ⟨v, by rw [Array.getElem?_setIfInBounds_ne (fun x => e x.symm)]; exact v1, v2⟩) (fun q hq => by simpa using hp q (by simp [hq]))
    obtain ⟨g1, g2, g3⟩ := this
    exact ⟨by simp [g1], g2, by simpa [setAll] using g3⟩

theorem wide_round {F : Fence} (h : Wide F) (l : Nat) : F.inRound l = Fence.wide.inRound l := by rcases h with rfl | ⟨k, rfl⟩ <;> rfl

/-- a loop's record -/
theorem loop_at (hR : Rel P w0 σ nx H w) {l : Nat} {lc : Loc} {s : LoopState} {pd : Option Code} {fn : FuncId} {tm : T AV} {ps : List Tmp} {as bd : Code} {d : Nat} (hg : H.get l = some (.loop s pd fn tm ps as bd d)) (hl : σ l = some lc) :
    ∃ f tmps ld, tmps.size = ntOf P fn ∧ σ d = some ld ∧ w.heap[lc.blk]? = some (.loop { state := s, pending := pd, fn := f, tmps, params := ps.toArray, assign := as, body := bd, defers := ld.blk }) ∧ TmR σ tm tmps := by
  obtain ⟨l', l1, hO⟩ := hR.dom l _ hg
  rw [hl] at l1; cases l1
  simpa only [OR] using hO

/-- the record's state is put -/
theorem putLoop (hR : Rel P w0 σ nx H w) {l : Nat} {lc : Loc} {s s' : LoopState} {pd pd' : Option Code} {fn : FuncId} {tm : T AV} {ps : List Tmp} {as bd : Code} {d : Nat} (hg : H.get l = some (.loop s pd fn tm ps as bd d)) (hl : σ l = some lc)
    {f : FuncId} {tmps : Array Value} {ld : Loc} (h1 : tmps.size = ntOf P fn) (h2 : σ d = some ld)
    (h3 : w.heap[lc.blk]? = some (.loop { state := s, pending := pd, fn := f, tmps, params := ps.toArray, assign := as, body := bd, defers := ld.blk })) (h4 : TmR σ tm tmps) :
    Rel P w0 σ nx (H.set l (some (.loop s' pd' fn tm ps as bd d))) (w.putObj lc.blk (.loop { state := s', pending := pd', fn := f, tmps, params := ps.toArray, assign := as, body := bd, defers := ld.blk })) :=
  putObj_rel hR _ hg hl (fun _ _ e => by cases e) h3 (fun w' hw' => by simp only [OR]; exact ⟨f, tmps, ld, h1, h2, hw', h4⟩)

theorem roundA_ok (hX : ExecOk P w0 rec) : RoundsOk P w0 (roundA P rec) := by
  intro l args H nx v H' nx' h σ w as lc hR hv hl
  unfold roundA at h
  split at h
  · rename_i pd0 fn tmA params assign body dfs hg
    obtain ⟨f, tmps, ld, h1, h2, h3, h4⟩ := loop_at hR hg hl
    split at h
    · cases h
    · cases h
    · rename_i tm hp hb
      have hp' := paramsOk_mem hp
      obtain ⟨b1, b2, b3⟩ := bindParams_ok hb hv h4 (fun p hpp => by rw [h1]; exact hp' p hpp)
      refine ⟨f, setAll (params.zip as) tmps, assign, body, ?_, fun F hF => ?_⟩
      · rw [run_yield h3 (by simpa using b1)]
        simp [setAll]
      · split at h
        · rename_i st hra
          split at h
          · rename_i pd fn1 tm1 ps1 as1 bd1 dfs1 hg1
            split at h
            · rename_i e st2 hrb
              split at h
              · rename_i hmk
                split at h
                · rename_i s2 pd2 fn2 tm2 ps2 as2 bd2 dfs2 hg2
                  -- the fence of the round
                  have hFr : ∀ τ : Sg, Sg.le σ τ → FenceFor τ (some l) (F.inRound lc.blk) := fun τ k => ⟨lc, k _ _ hl, wide_round hF _⟩
                  refine roundIn_of_wpIn (hF.fn f) (wpIn_mono (hX _ _ _ _ _ _ hra σ { tmps := setAll (params.zip as) tmps, defers := [] } w _ (hFr σ (Sg.le_refl _)) ⟨hR, b2, by rw [b3, h1], rfl⟩).1 ?_)
                  rintro x a w1 ⟨rfl, τ, k1, k2⟩
                  have hlτ := k1 _ _ hl
                  obtain ⟨f1, tmps1, ld1, q1, q2, q3, q4⟩ := loop_at k2.rel hg1 hlτ
                  refine ⟨_, run_beginRound q3 rfl, ?_⟩
                  have hR2 := putLoop (s' := .busy) (pd' := pd) k2.rel hg1 hlτ q1 q2 q3 q4
                  refine wpIn_mono (hX _ _ _ _ _ _ hrb τ a _ _ (hFr τ k1) ⟨hR2, k2.tm, k2.size, k2.marks⟩).1 ?_
                  rintro x a2 w2 ⟨rfl, τ2, j1, j2⟩
                  have hl2 := j1 _ _ hlτ
                  obtain ⟨f2, tmps2, ld2, p1, p2, p3, p4⟩ := loop_at j2.rel hg2 hl2
                  have fin : ∀ (j : Option Code), jumpOf e = j → ∃ v' w', (Instr.endRound lc.blk j).run P w2 = .ok v' w' ∧ Ends P w0 σ v H' nx' (.returned v') w' := by
                    intro j hj
                    refine ⟨_, _, run_endRound j p3, ?_⟩
                    cases j with
                    | none =>
                      rw [hj] at h
                      cases h
                      exact ⟨τ2, _, rfl, Sg.le_trans k1 j1, by simp [VR], putLoop j2.rel hg2 hl2 p1 p2 p3 p4⟩
                    | some j =>
                      rw [hj] at h
                      cases h
                      exact ⟨τ2, _, rfl, Sg.le_trans k1 j1, by simp [VR], putLoop j2.rel hg2 hl2 p1 p2 p3 p4⟩
                  cases e with
                  | normal => exact fin none rfl
                  | ret => exact fin _ rfl
                  | exit id => exact fin _ rfl
                  | goto t => exact fin _ rfl
                · cases h
              · cases h
            · cases h
          · cases h
        · cases h
  · cases h

theorem enter_ok {rd : Option Nat} {F : Fence} {fn : FuncId} {st : St} {a : Act} {d : Nat} {H' : Heap} {nx' : Nat} {marks : List Nat} (h : enterA rd st.H st.nx st.marks = some (d, H', nx', marks)) (hF : FenceFor σ rd F) (hf : Frm P w0 σ fn st a w)
    (ps : Array Tmp) (assign body : Code) :
    ∃ τ w1 mark ld, Sg.le σ τ ∧ τ d = some ld ∧ Rel P w0 τ nx' H' w1 ∧ MarksR τ marks (mark ++ a.defers) ∧ ∀ f : FuncId,
      (Instr.enterLoop f a.tmps ps assign body F.round).run P w = .ok (w1.heap.size, mark) (w1.alloc (.loop { state := .ready, pending := none, fn := f, tmps := a.tmps, params := ps, assign, body, defers := ld.blk })) := by
  unfold enterA at h
  split at h
  · cases h
    subst hF
    let l : Loc := ⟨w.heap.size, 0, 0, 0⟩
    have hle : Sg.le σ (σ.ext st.nx l) := Sg.le_ext (hf.rel.fresh _ (Nat.le_refl _))
    refine ⟨σ.ext st.nx l, w.alloc (.deferred (some [])), [{ target := .collected w.heap.size, args := #[] }], l, hle, Sg.ext_same _ _ _, ?_, ?_, fun f => ?_⟩
    · exact hf.rel.alloc _ _ l rfl (by simp only [OR]; exact heap_new w _)
    · simp only [MarksR]
      exact ⟨l, a.defers, Sg.ext_same _ _ _, rfl, hf.marks.mono hle⟩
    · rw [show Fence.wide.round = none from rfl, run_enterLoop_outer]
      simp
      rfl
  · rename_i l0
    split at h
    · rename_i s pd fn0 tm0 ps0 as0 bd0 d0 hg
      cases h
      obtain ⟨lc, hl, rfl⟩ := hF
      obtain ⟨f1, tmps1, ld1, q1, q2, q3, q4⟩ := loop_at hf.rel hg hl
      exact ⟨σ, w, [], ld1, Sg.le_refl _, q2, hf.rel, hf.marks, fun f => by rw [Fence.inRound_round, run_enterLoop_inner q3]⟩
    · cases h

theorem rangeA_ok (hX : ExecOk P w0 rec) (hC : CallsOk P w0 (callA P rec noOrc)) {rd : Option Nat} {F : Fence} {fn : FuncId} {st st' : St} {e : AExit} {a : Act} {g : Operand} {params : Array Tmp} {assign body : Code}
    (h : rangeA P rec rd fn g params.toList assign body st = some (e, st')) (hF : FenceFor σ rd F) (hf : Frm P w0 σ fn st a w) :
    (Code.rangeFunc g params assign body).wpIn F 0 P (Post P w0 σ fn e st') a w := by
  unfold rangeA at h
  split at h
  · cases h
  · rename_i d H1 nx1 marks hen
    obtain ⟨τ, w1, mark, ld, k1, k2, k3, k4, k5⟩ := enter_ok hen hF hf params assign body
    split at h
    · rename_i f first captured hg
      split at h
      · cases h
      · rename_i v H2 nx2 hc
        have hE : EnvR σ ⟨[], st.tm⟩ a.tmps := hf.tm
        have hgv := OpdOn.of_env hE [g] g (by simp) _ hg
        simp only [VR] at hgv
        obtain ⟨g', xs, ys, e1, rfl, e3, e4⟩ := hgv
        refine wpIn_rangeFunc fun f0 _ => ?_
        let l : Loc := ⟨w1.heap.size, 0, 0, 0⟩
        have hle : Sg.le τ (τ.ext nx1 l) := Sg.le_ext (k3.fresh _ (Nat.le_refl _))
        have hle' := Sg.le_trans k1 hle
        let w2 := w1.alloc (.loop { state := .ready, pending := none, fn := f0, tmps := a.tmps, params := params, assign, body, defers := ld.blk })
        have hR2 : Rel P w0 (τ.ext nx1 l) (nx1 + 1) _ w2 := k3.alloc (.loop { state := .ready, pending := none, fn := f0, tmps := a.tmps, params := params, assign, body, defers := ld.blk }) (.loop .ready none fn st.tm params.toList assign body d) l rfl
          (by simp only [OR]; exact ⟨f0, a.tmps, ld, hf.size, hle _ _ k2, by rw [Array.toArray_toList]; exact heap_new w1 _, hf.tm.mono hle'⟩)
        have hvs : VRs (τ.ext nx1 l) (first ++ (.func (.yield nx1) [] [] :: captured)) (xs.toList ++ (.func (.yield w1.heap.size) #[] #[] :: ys.toList)) := by
          refine (e3.mono hle').append ?_
          simp only [VRs]
          refine ⟨_, _, rfl, ?_, e4.mono hle'⟩
          simp only [VR]
          exact ⟨_, _, _, rfl, ⟨l, Sg.ext_same _ _ _, rfl⟩, by simp [VRs], by simp [VRs]⟩
        obtain ⟨c1, c2⟩ := hC _ _ _ _ _ _ _ hc _ _ _ hR2 hvs
        refine ⟨w1.heap.size, mark, w2, { target := .fn (.func f) ys, args := xs ++ #[.func (.yield w1.heap.size) #[] #[]] }, w2, f, (xs.toList ++ (.func (.yield w1.heap.size) #[] #[] :: ys.toList)).toArray, w2, k5 f0, ?_, fun f' _ => hF.wide.fn f', ?_, hF.wide.depth, CallsIn.mono (hF.wide.calls c2) ?_⟩
        · have hm : (#[Operand.const (.func (.yield w1.heap.size) #[] #[])] : Array Operand).map a.eval = #[.func (.yield w1.heap.size) #[] #[]] := by simp [Act.eval]
          simp only [resolve, e1, Deferred.ofValue, hm, Sem.run_pure]
        · have : (xs ++ #[Value.func (.yield w1.heap.size) #[] #[]] ++ ys) = (xs.toList ++ (.func (.yield w1.heap.size) #[] #[] :: ys.toList)).toArray := by
            apply Array.ext'; simp
          simp only [invoke, this]
          exact c1
        · rintro x w3 ⟨τ3, u, rfl, j1, j2, j3⟩
          split at h
          · rename_i s pd fn' tm' ps' as' bd' d' hg3
            have hl3 : τ3 nx1 = some l := j1 _ _ (Sg.ext_same _ _ _)
            obtain ⟨f3, tmps3, ld3, q1, q2, q3, q4⟩ := loop_at j3 hg3 hl3
            have hle3 := Sg.le_trans hle' j1
            have hm3 : MarksR τ3 marks (mark ++ a.defers) := k4.mono (Sg.le_trans hle j1)
            have fin : s ≠ .busy → (match (generalizing := false) pd with
                | none => some (AExit.normal, ({ tm := st.tm, H := H2.set nx1 (some (.loop .exhausted pd fn' tm' ps' as' bd' d')), nx := nx2, marks } : St))
                | some j => rec rd fn j { tm := st.tm, H := H2.set nx1 (some (.loop .exhausted pd fn' tm' ps' as' bd' d')), nx := nx2, marks }) = some (e, st') →
                rangePost F 0 P w1.heap.size (Post P w0 σ fn e st') { a with defers := mark ++ a.defers } (.returned u) w3 := by
              intro hs h
              refine ⟨pd, _, run_endLoop q3 hs, ?_⟩
              have hR4 := putLoop (s' := .exhausted) (pd' := pd) j3 hg3 hl3 q1 q2 q3 q4
              have hfr : Frm P w0 τ3 fn { tm := st.tm, H := H2.set nx1 (some (.loop .exhausted pd fn' tm' ps' as' bd' d')), nx := nx2, marks } { a with defers := mark ++ a.defers } _ :=
                ⟨hR4, hf.tm.mono hle3, hf.size, hm3⟩
              cases pd with
              | none =>
                cases h
                exact ⟨rfl, τ3, hle3, hfr⟩
              | some j =>
                exact wpIn_mono (hX _ _ _ _ _ _ h τ3 _ _ F (hF.mono hle3) hfr).1 fun _ _ _ k => k.weak hle3
            cases s with
            | busy => cases h
            | ready => exact fin (by simp) h
            | done => exact fin (by simp) h
            | exhausted => exact fin (by simp) h
          · cases h
    · cases h

end
end Go.SK

/- Code, fourth part: operations that leave the heap alone; what a plan of a drawn region says. -/
namespace Go.SK
open Go

section
variable {P : Program} {E : Env} {H : Heap} {nx : Nat} {r : OpR}

theorem still_move {x : Operand} (h : opMove E H nx x = some r) : ∃ v, r = .val v H nx := by
  unfold opMove at h; split at h <;> first | (cases h; exact ⟨_, rfl⟩) | cases h
theorem still_pick {c a b : Operand} (h : opPick E H nx c a b = some r) : ∃ v, r = .val v H nx := by
  unfold opPick at h; split at h <;> first | exact still_move h | cases h
theorem still_load1 {x : Operand} (h : load1 E H nx x = some r) : ∃ v, r = .val v H nx := by
  unfold load1 at h; repeat' split at h
  all_goals first | (cases h; exact ⟨_, rfl⟩) | cases h
theorem still_loadN {n : Nat} {x : Operand} (h : loadN n E H nx x = some r) : ∃ v, r = .val v H nx := by
  unfold loadN at h; repeat' split at h
  all_goals first | (cases h; exact ⟨_, rfl⟩) | cases h
theorem still_nil {x : Operand} (h : opNil E H nx x = some r) : ∃ v, r = .val v H nx := by
  unfold opNil at h; split at h <;> first | (cases h; exact ⟨_, rfl⟩) | cases h
theorem still_bin {op : BinOp} {t : TypeId} {x y : Operand} (h : opBin P E H nx op t x y = some r) : ∃ v, r = .val v H nx := by
  unfold opBin at h; repeat' split at h
  all_goals first | (cases h; exact ⟨_, rfl⟩) | cases h
theorem still_un {op : UnOp} {x : Operand} (h : opUn E H nx op x = some r) : ∃ v, r = .val v H nx := by
  unfold opUn at h; repeat' split at h
  all_goals first | (cases h; exact ⟨_, rfl⟩) | cases h
theorem still_iface {t : TypeId} {x : Operand} (h : opIface P E H nx t x = some r) : ∃ v, r = .val v H nx := by
  unfold opIface at h; repeat' split at h
  all_goals first | (cases h; exact ⟨_, rfl⟩) | cases h
theorem still_func {fn : Fn} {a b : List Operand} (h : opFunc E H nx fn a b = some r) : ∃ v, r = .val v H nx := by
  unfold opFunc at h; repeat' split at h
  all_goals first | (cases h; exact ⟨_, rfl⟩) | cases h
theorem still_faddr {off : Nat} {x : Operand} (h : faddr off E H nx x = some r) : ∃ v, r = .val v H nx := by
  unfold faddr at h; split at h <;> first | (cases h; exact ⟨_, rfl⟩) | cases h
theorem still_field {t : TypeId} {x : Operand} {f : Nat} (h : opField P E H nx t x f = some r) : ∃ v, r = .val v H nx := by
  unfold opField at h; repeat' split at h
  all_goals first | (cases h; exact ⟨_, rfl⟩) | cases h
theorem still_idx {t : TypeId} {x i : Operand} (h : opIndexAddr P E H nx t x i = some r) : ∃ v, r = .val v H nx := by
  unfold opIndexAddr idxOp at h; repeat' split at h
  all_goals first | (cases h; exact ⟨_, rfl⟩) | cases h
theorem still_index {t : TypeId} {x i : Operand} (h : opIndex P E H nx t x i = some r) : ∃ v, r = .val v H nx := by
  unfold opIndex indexOp at h; repeat' split at h
  all_goals first | (cases h; exact ⟨_, rfl⟩) | (simp only [Option.map_eq_some_iff] at h; obtain ⟨v, _, rfl⟩ := h; exact ⟨v, rfl⟩) | cases h
theorem still_lookup {t : TypeId} {x k : Operand} {ok : Bool} (h : opLookup P E H nx t x k ok = some r) : ∃ v, r = .val v H nx := by
  unfold opLookup at h; repeat' split at h
  all_goals first | (cases h; exact ⟨_, rfl⟩) | cases h
theorem still_extract {t : Operand} {i : Nat} (h : opExtract E H nx t i = some r) : ∃ v, r = .val v H nx := by
  unfold opExtract at h; repeat' split at h
  all_goals first | (cases h; exact ⟨_, rfl⟩) | cases h
theorem still_sliceOp {t : TypeId} {x : AV} {lo hi mx : Option AV} (h : sliceOp P H nx t x lo hi mx = some r) : ∃ v, r = .val v H nx := by
  unfold sliceOp at h
  split at h
  · repeat' split at h
    all_goals first | (cases h; exact ⟨_, rfl⟩) | cases h
  · split at h
    · rw [fnat_eq] at h
      split at h
      · simp only [Option.map_eq_some_iff] at h; obtain ⟨v, _, rfl⟩ := h; exact ⟨_, rfl⟩
      · cases h
    · cases h
  · split at h
    · split at h <;> first | (cases h; exact ⟨_, rfl⟩) | cases h
    · split at h <;> first | (cases h; exact ⟨_, rfl⟩) | cases h
    · split at h
      · split at h <;> first | (cases h; exact ⟨_, rfl⟩) | cases h
      · repeat' split at h
        all_goals first | (cases h; exact ⟨_, rfl⟩) | cases h
    · cases h
  · repeat' split at h
    all_goals first | (cases h; exact ⟨_, rfl⟩) | cases h
  · cases h
theorem still_slice {t : TypeId} {x : Operand} {lo hi mx : Option Operand} (h : opSlice P E H nx t x lo hi mx = some r) : ∃ v, r = .val v H nx := by
  unfold opSlice at h
  split at h
  · exact still_sliceOp h
  · cases h
theorem still_conv {s d : TypeId} {x : Operand} (hd : (match P.underlying d with | some (.slice _) => true | some _ => false | none => true) = false) (h : opConv P E H nx s d x = some r) : ∃ v, r = .val v H nx := by
  unfold opConv at h
  split at h
  · unfold convOp at h
    split at h
    · rename_i k _ n h1 h2; rw [fint_eq] at h; cases h; exact ⟨_, rfl⟩
    · cases h; exact ⟨_, rfl⟩
    · cases h; exact ⟨_, rfl⟩
    · rename_i h1 h2; rw [h1] at hd; cases hd
    · rename_i h1 h2; rw [h1] at hd; cases hd
    · split at h <;> first | (cases h; exact ⟨_, rfl⟩) | cases h
    · repeat' split at h
      all_goals first | (cases h; exact ⟨_, rfl⟩) | cases h
    · cases h
  · cases h
theorem still_len {ts : List TypeId} {args : List AV} (h : builtinOp P H nx .len ts args = some r) : ∃ v, r = .val v H nx := by
  unfold builtinOp at h
  split at h <;> try (rename_i e; cases e; done)
  all_goals first | (cases h; done) | skip
  all_goals first | contradiction | skip
  all_goals (repeat' split at h)
  all_goals first | (rw [fnat_eq] at h; cases h; exact ⟨_, rfl⟩) | (cases h; exact ⟨_, rfl⟩) | cases h
theorem still_cap {ts : List TypeId} {args : List AV} (h : builtinOp P H nx .cap ts args = some r) : ∃ v, r = .val v H nx := by
  unfold builtinOp at h
  split at h <;> try (rename_i e; cases e; done)
  all_goals first | (cases h; done) | skip
  all_goals first | contradiction | skip
  all_goals (repeat' split at h)
  all_goals first | (cases h; exact ⟨_, rfl⟩) | cases h
theorem still_minmax {b : Builtin} (hb : b = .min ∨ b = .max) {ts : List TypeId} {args : List AV} (h : builtinOp P H nx b ts args = some r) : ∃ v, r = .val v H nx := by
  rcases hb with rfl | rfl
  · unfold builtinOp at h
    split at h <;> try (rename_i e; cases e; done)
    all_goals first | (cases h; done) | skip
    all_goals first | contradiction | skip
    all_goals (simp only [Option.map_eq_some_iff] at h; obtain ⟨v, _, rfl⟩ := h; exact ⟨v, rfl⟩)
  · unfold builtinOp at h
    split at h <;> try (rename_i e; cases e; done)
    all_goals first | (cases h; done) | skip
    all_goals first | contradiction | skip
    all_goals (simp only [Option.map_eq_some_iff] at h; obtain ⟨v, _, rfl⟩ := h; exact ⟨v, rfl⟩)

theorem aop_still {o : Op} (he : isEff P o = false) (h : aop P E H nx o = some r) : ∃ v, r = .val v H nx := by
  unfold aop cop at h
  cases o with
  | move x => exact still_move h
  | assign x => exact still_move h
  | pick c a b => exact still_pick h
  | load t a =>
    simp only [cLoad] at h
    split at h
    · split at h
      · exact still_loadN h
      · cases h
    · exact still_load1 h
    · cases h
  | nilCheck x => exact still_nil h
  | binOp op t x y z => exact still_bin h
  | unOp op t x => exact still_un h
  | makeInterface t x => exact still_iface h
  | makeFunc fn a b => cases fn <;> first | exact still_func h | cases h
  | slice t x lo hi mx => exact still_slice h
  | fieldAddr t x f =>
    simp only [cFieldAddr] at h
    split at h
    · split at h
      · exact still_faddr h
      · cases h
    · cases h
  | field t x f => exact still_field h
  | indexAddr t x i => exact still_idx h
  | index t x i => exact still_index h
  | lookup t x k ok => exact still_lookup h
  | extract t i => exact still_extract h
  | convert s d x => exact still_conv he h
  | call c =>
    simp only [opCall] at h
    simp only [isEff] at he
    split at h
    · rename_i b hb
      rw [hb] at he
      split at h
      · cases b <;> first | exact still_len h | exact still_cap h | exact still_minmax (.inl rfl) h | exact still_minmax (.inr rfl) h | cases he
      · cases h
    · rename_i f hf; rw [hf] at he; cases he
    · cases h
  | _ => cases he

end
end Go.SK

/- Code, fifth part: what a plan of a drawn region says. -/
namespace Go.SK
open Go

theorem clr_get (s : Nat) (tm : T AV) (t : Nat) : (clr s tm).get t = if t = s then none else tm.get t := by
  unfold clr
  split
  · rename_i h
    by_cases e : t = s
    · subst e; rw [if_pos rfl, h]
    · rw [if_neg e]
  · rw [T.get_set]
theorem flush_get (mask : Nat) : ∀ (l : List (Nat × AV)) (tm : T AV) (t : Nat) (a : AV), (flush mask l tm).get t = some a → look tm t l = some a
  | [], tm, t, a, h => h
  | (s, v) :: l, tm, t, a, h => by
    simp only [flush] at h
    rw [look_cons]
    split at h
    · rw [clr_get] at h
      split at h
      · cases h
      · rename_i e
        rw [if_neg (fun x => e x.symm)]
        exact flush_get mask l tm t a h
    · rw [T.get_set] at h
      split at h
      · rename_i e
        rw [if_pos e.symm]; exact h
      · rename_i e
        rw [if_neg (fun x => e x.symm)]
        exact flush_get mask l tm t a h
theorem flush_ok {σ : Sg} {mask : Nat} {l : List (Nat × AV)} {tm : T AV} {tmps : Array Value} (h : EnvR σ ⟨l, tm⟩ tmps) : TmR σ (flush mask l tm) tmps :=
  fun t a ha => h t a (flush_get mask l tm t a ha)

theorem befE_spec {acc : List Nat} : ∀ {es : List Edge} {b : Nat}, befE acc es = some b →
    (∀ e ∈ es, Region.binds .any e = true → e.on < acc.length) ∧ ∀ j, Nat.testBit b j = true → ∃ e ∈ es, Region.binds .any e = true ∧ (j = e.on ∨ ∃ x, acc[e.on]? = some x ∧ Nat.testBit x j = true)
  | [], b, h => by
    simp only [befE, Option.some.injEq] at h; subst h
    exact ⟨(fun e he => by cases he), (fun j hj => by simp at hj)⟩
  | e :: es, b, h => by
    simp only [befE] at h
    split at h
    · rename_i hb
      obtain ⟨h1, h2⟩ := befE_spec h
      refine ⟨fun x hx hbx => ?_, fun j hj => ?_⟩
      · rcases List.mem_cons.1 hx with rfl | hx
        · rw [hb] at hbx; cases hbx
        · exact h1 x hx hbx
      · obtain ⟨x, x1, x2⟩ := h2 j hj
        exact ⟨x, by simp [x1], x2⟩
    · rename_i hb
      split at h
      · rename_i x r hx hr
        cases h
        obtain ⟨h1, h2⟩ := befE_spec hr
        rw [nth_eq] at hx
        have hlt : e.on < acc.length := (List.getElem?_eq_some_iff.1 hx).1
        refine ⟨fun y hy hby => ?_, fun j hj => ?_⟩
        · rcases List.mem_cons.1 hy with rfl | hy
          · exact hlt
          · exact h1 y hy hby
        · have hj' : Nat.testBit (r ||| (x ||| 2 ^ e.on)) j = true := hj
          rw [Nat.testBit_or, Nat.testBit_or, Nat.testBit_two_pow] at hj'
          simp only [Bool.or_eq_true, decide_eq_true_eq] at hj'
          rcases hj' with hj' | hj' | hj'
          · obtain ⟨y, y1, y2⟩ := h2 j hj'
            exact ⟨y, by simp [y1], y2⟩
          · exact ⟨e, by simp, hb, .inr ⟨x, hx, hj'⟩⟩
          · exact ⟨e, by simp, hb, .inl hj'.symm⟩
      · cases h

theorem befs_spec : ∀ {os : List Oper} {acc B : List Nat}, befs os acc = some B →
    B.take acc.length = acc ∧ B.length = acc.length + os.length ∧ ∀ k o, os[k]? = some o → ∃ b, B[acc.length + k]? = some b ∧ befE (B.take (acc.length + k)) o.after.toList = some b
  | [], acc, B, h => by
    simp only [befs, Option.some.injEq] at h; subst h
    exact ⟨by simp, by simp, fun k o h => by simp at h⟩
  | o :: os, acc, B, h => by
    simp only [befs] at h
    split at h
    · rename_i b hb
      obtain ⟨h1, h2, h3⟩ := befs_spec h
      simp only [List.length_append, List.length_singleton] at h1 h2 h3
      have h4 : B.take acc.length = acc := by
        have := congrArg (List.take acc.length) h1
        rw [List.take_take, Nat.min_eq_left (by omega)] at this
        simpa using this
      refine ⟨h4, by simp only [List.length_cons]; omega, fun k q hq => ?_⟩
      cases k with
      | zero =>
        simp at hq; subst hq
        refine ⟨b, ?_, by rw [Nat.add_zero, h4]; exact hb⟩
        have : (B.take (acc.length + 1))[acc.length]? = some b := by rw [h1]; simp
        rw [List.getElem?_take] at this
        simpa using this
      | succ k =>
        have := h3 k q (by simpa using hq)
        rw [show acc.length + (k + 1) = acc.length + 1 + k from by omega]
        exact this
    · cases h

/-- a set of operations that holds what comes ahead of each of them -/
def Clo (ops : Array Oper) (L : Nat → Prop) : Prop := ∀ i o, ops[i]? = some o → L i → ∀ e ∈ o.after, Region.binds .any e = true → L e.on

theorem allIx_mem {f : Nat → Oper → Bool} : ∀ {l : List Oper} {i : Nat}, allIx f i l = true → ∀ k o, l[k]? = some o → f (i + k) o = true
  | [], _, _, k, o, h => by simp at h
  | p :: l, i, h, k, o, hk => by
    simp only [allIx, Bool.and_eq_true] at h
    cases k with
    | zero => simp at hk; subst hk; exact h.1
    | succ k =>
      have := allIx_mem h.2 k o (by simpa using hk)
      rw [show i + (k + 1) = (Nat.add i 1) + k from by show i + (k + 1) = i + 1 + k; omega]
      exact this
theorem allN_mem {f : Nat → Bool} : ∀ {l : List Nat}, allN f l = true → ∀ x ∈ l, f x = true
  | [], _, x, h => by cases h
  | y :: l, h, x, hx => by
    simp only [allN, Bool.and_eq_true] at h
    rcases List.mem_cons.1 hx with rfl | hx
    · exact h.1
    · exact allN_mem h.2 x hx
theorem allN_of {f : Nat → Bool} : ∀ {l : List Nat}, (∀ x ∈ l, f x = true) → allN f l = true
  | [], _ => rfl
  | y :: l, h => by
    simp only [allN, Bool.and_eq_true]
    exact ⟨h y (by simp), allN_of fun x hx => h x (by simp [hx])⟩
theorem memT_of {t : Nat} : ∀ {l : List Nat}, t ∈ l → memT t l = true
  | [], h => by cases h
  | u :: l, h => by
    simp only [memT, Bool.or_eq_true]
    rcases List.mem_cons.1 h with rfl | h
    · exact .inl (by simp)
    · exact .inr (memT_of h)
theorem readsT_of {t : Tmp} : ∀ {l : List Operand}, Operand.tmp t ∈ l → t ∈ readsT l
  | [], h => by cases h
  | x :: l, h => by
    rcases List.mem_cons.1 h with rfl | h
    · simp [readsT]
    · have := readsT_of h
      cases x <;> simp [readsT, this]

section
variable {P : Program}

theorem effsOf_mem : ∀ {l : List Oper} {i k : Nat} {o : Oper}, l[k]? = some o → isEff P o.op = true → i + k ∈ effsOf P i l
  | [], _, k, o, h, _ => by simp at h
  | p :: l, i, k, o, h, he => by
    cases k with
    | zero => simp at h; subst h; simp [effsOf, he]
    | succ k =>
      have := effsOf_mem (i := Nat.add i 1) (k := k) (by simpa using h) he
      rw [show (Nat.add i 1) + k = i + (k + 1) from by show i + 1 + k = i + (k + 1); omega] at this
      simp only [effsOf]
      split
      · simp [this]
      · exact this
theorem effsOf_eff : ∀ {l : List Oper} {i j : Nat}, j ∈ effsOf P i l → ∃ k o, j = i + k ∧ l[k]? = some o ∧ isEff P o.op = true
  | [], _, j, h => by cases h
  | p :: l, i, j, h => by
    simp only [effsOf] at h
    split at h
    · rename_i he
      rcases List.mem_cons.1 h with rfl | h
      · exact ⟨0, p, by simp, by simp, he⟩
      · obtain ⟨k, o, h1, h2, h3⟩ := effsOf_eff h
        exact ⟨k + 1, o, by rw [h1]; show i + 1 + k = i + (k + 1); omega, by simpa using h2, h3⟩
    · obtain ⟨k, o, h1, h2, h3⟩ := effsOf_eff h
      exact ⟨k + 1, o, by rw [h1]; show i + 1 + k = i + (k + 1); omega, by simpa using h2, h3⟩

theorem pairsOf_mem {B effs : List Nat} {i : Nat} : ∀ {cs : List Nat} {c : Nat}, c ∈ cs → allowed B effs i c = true → sameCut effs i c = false → (i, c) ∈ pairsOf B effs i cs
  | [], c, h, _, _ => by cases h
  | d :: cs, c, h, h1, h2 => by
    simp only [pairsOf]
    rcases List.mem_cons.1 h with rfl | h
    · simp [h1, h2]
    · have := pairsOf_mem h h1 h2
      split
      · simp [this]
      · exact this
theorem planOf_mem {B effs cuts : List Nat} : ∀ {l : List Oper} {i k : Nat} {o : Oper} {c : Nat}, l[k]? = some o → isEff P o.op = false → c ∈ cuts → allowed B effs (i + k) c = true → sameCut effs (i + k) c = false →
    (i + k, c) ∈ planOf P B effs cuts i l
  | [], _, k, o, c, h, _, _, _, _ => by simp at h
  | p :: l, i, k, o, c, h, he, hc, h1, h2 => by
    cases k with
    | zero => simp at h; subst h; simp only [planOf, he, List.mem_append]; exact .inl (pairsOf_mem hc h1 h2)
    | succ k =>
      have e : i + (k + 1) = (Nat.add i 1) + k := by show i + (k + 1) = i + 1 + k; omega
      rw [e] at h1 h2 ⊢
      have := planOf_mem (l := l) (i := Nat.add i 1) (k := k) (by simpa using h) he hc h1 h2
      simp only [planOf]
      split
      · exact this
      · exact List.mem_append_right _ this

/-- what a plan says -/
structure Plan (P : Program) (ops : Array Oper) (pl : List (Nat × Nat)) where
  B : List Nat
  edge : ∀ (i : Nat) (o : Oper), ops[i]? = some o → ∀ e ∈ o.after, Region.binds .any e = true → e.on < i
  lt : ∀ i j, bitAt B i j = true → j < i
  clo : ∀ (L : Nat → Prop), Clo ops L → ∀ i o, ops[i]? = some o → (∀ e ∈ o.after, Region.binds .any e = true → L e.on) → ∀ j, bitAt B i j = true → L j
  guard : ∀ (i : Nat) (o : Oper) (g : Nat) (q : Bool), ops[i]? = some o → o.guard = some (g, q) → bitAt B i g = true
  uniq : ∀ (i j : Nat) (oi oj : Oper) (t : Tmp), ops[i]? = some oi → ops[j]? = some oj → i ≠ j → oj.dst = some t → oi.dst ≠ some t
  apart : ∀ (i j : Nat) (oi oj : Oper) (t : Tmp), ops[i]? = some oi → ops[j]? = some oj → i ≠ j → oj.dst = some t → Operand.tmp t ∈ oi.op.operands.toList → bitAt B i j = true ∨ bitAt B j i = true
  effs : ∀ (i j : Nat) (oi oj : Oper), ops[i]? = some oi → ops[j]? = some oj → isEff P oi.op = true → isEff P oj.op = true → j < i → bitAt B i j = true
  pairs : ∀ (i : Nat) (o : Oper) (c : Nat), ops[i]? = some o → isEff P o.op = false → (c = ops.size ∨ ∃ oc, ops[c]? = some oc ∧ isEff P oc.op = true) →
    (∀ j oj, ops[j]? = some oj → isEff P oj.op = true → (bitAt B i j = true → j < c) ∧ (bitAt B j i = true → c ≤ j)) →
    (i, c) ∈ pl ∨ (i ≤ c ∧ ∀ j oj, ops[j]? = some oj → isEff P oj.op = true → j < i ∨ c ≤ j)

theorem plan_ok {ops : Array Oper} {pl : List (Nat × Nat)} (h : plan P ops.toList = some pl) : Nonempty (Plan P ops pl) := by
  unfold plan at h
  split at h
  · cases h
  · rename_i B hB
    simp only at h
    split at h
    · rename_i hall
      cases h
      obtain ⟨_, b2, b3⟩ := befs_spec hB
      simp only [List.length_nil, Nat.zero_add] at b2 b3
      have gi : ∀ {i o}, ops[i]? = some o → ops.toList[i]? = some o := fun h => by rw [Array.getElem?_toList]; exact h
      have hcl := fun i o (hi : ops[i]? = some o) => b3 i o (gi hi)
      have hedge : ∀ i o, ops[i]? = some o → ∀ e ∈ o.after, Region.binds .any e = true → e.on < i := by
        intro i o hi e he hbe
        obtain ⟨b, h1, h2⟩ := hcl i o hi
        have := (befE_spec h2).1 e (by simpa using he) hbe
        simp only [List.length_take] at this
        omega
      have hbit : ∀ i j, bitAt B i j = true → ∃ o e, ops[i]? = some o ∧ e ∈ o.after ∧ Region.binds .any e = true ∧ e.on < i ∧ (j = e.on ∨ bitAt B e.on j = true) := by
        intro i j hij
        unfold bitAt at hij
        split at hij
        · rename_i b hb
          rw [nth_eq] at hb
          have hlt : i < ops.size := by have := (List.getElem?_eq_some_iff.1 hb).1; rw [b2] at this; simpa using this
          obtain ⟨o, ho⟩ : ∃ o, ops[i]? = some o := ⟨_, Array.getElem?_eq_getElem hlt⟩
          obtain ⟨b', h1, h2⟩ := hcl i o ho
          rw [hb] at h1; cases h1
          obtain ⟨e, e1, e2, e3⟩ := (befE_spec h2).2 j hij
          have e1' : e ∈ o.after := by simpa using e1
          have hlt' := hedge i o ho e e1' e2
          refine ⟨o, e, ho, e1', e2, hlt', e3.imp id ?_⟩
          rintro ⟨x, x1, x2⟩
          rw [List.getElem?_take, if_pos hlt'] at x1
          unfold bitAt
          rw [nth_eq, x1]; exact x2
        · cases hij
      have hops := allIx_mem hall
      have hpair : ∀ i j oi oj, ops[i]? = some oi → ops[j]? = some oj → SK.apart B i j oi oj = true ∧ (isEff P oi.op = true → isEff P oj.op = true → j < i → bitAt B i j = true) := by
        intro i j oi oj hi hj
        have h1 := hops i oi (gi hi)
        rw [Nat.zero_add, Bool.and_eq_true] at h1
        have h2 := allIx_mem h1.2 j oj (gi hj)
        rw [Nat.zero_add, Bool.and_eq_true] at h2
        refine ⟨h2.1, fun e1 e2 hlt => ?_⟩
        have h3 := h2.2
        rw [e1, e2] at h3
        have : Nat.blt j i = true := by simpa using hlt
        rw [this] at h3
        simpa using h3
      refine ⟨⟨B, hedge, ?_, ?_, ?_, ?_, ?_, fun i j oi oj hi hj => (hpair i j oi oj hi hj).2, ?_⟩⟩
      · intro i
        induction i using Nat.strongRecOn with
        | _ i ih =>
          intro j hij
          obtain ⟨o, e, _, _, _, h4, h5⟩ := hbit i j hij
          rcases h5 with rfl | h5
          · exact h4
          · have := ih e.on h4 j h5; omega
      · intro L hL i
        induction i using Nat.strongRecOn with
        | _ i ih =>
          intro o ho hall j hij
          obtain ⟨o', e, h1, h2, h3, h4, h5⟩ := hbit i j hij
          rw [ho] at h1; cases h1
          have hLe := hall e h2 h3
          rcases h5 with rfl | h5
          · exact hLe
          · have hlt : i < ops.size := (Array.getElem?_eq_some_iff.1 ho).1
            have he : ops[e.on]? = some (ops[e.on]'(by omega)) := Array.getElem?_eq_getElem (by omega)
            exact ih e.on h4 _ he (fun e' h6 h7 => hL _ _ he hLe e' h6 h7) j h5
      · intro i o g q hi hg
        have h1 := hops i o (gi hi)
        rw [Nat.zero_add, Bool.and_eq_true] at h1
        have h2 := h1.1
        simp only [guardOk, hg] at h2
        exact h2
      · intro i j oi oj t hi hj hne hd hdi
        have h1 := (hpair i j oi oj hi hj).1
        unfold SK.apart at h1
        have : Nat.beq i j = false := by
          cases hb : Nat.beq i j with
          | false => rfl
          | true => exact absurd (Nat.eq_of_beq_eq_true hb) hne
        rw [this, hd, hdi] at h1
        simp at h1
      · intro i j oi oj t hi hj hne hd hm
        have h1 := (hpair i j oi oj hi hj).1
        unfold SK.apart at h1
        have : Nat.beq i j = false := by
          cases hb : Nat.beq i j with
          | false => rfl
          | true => exact absurd (Nat.eq_of_beq_eq_true hb) hne
        rw [this, hd] at h1
        simp only [Bool.and_eq_true, Bool.or_eq_true, memT_of (readsT_of hm), Bool.not_true, Bool.false_eq_true, or_false] at h1
        exact h1.1
      · intro i o c hi he hc hall
        have hcm : c ∈ effsOf P 0 ops.toList ++ [len ops.toList] := by
          rcases hc with rfl | ⟨oc, h1, h2⟩
          · simp [len_eq]
          · have := effsOf_mem (P := P) (i := 0) (gi h1) h2
            rw [Nat.zero_add] at this
            exact List.mem_append_left _ this
        have effE : ∀ j ∈ effsOf P 0 ops.toList, ∃ oj, ops[j]? = some oj ∧ isEff P oj.op = true := by
          intro j hj
          obtain ⟨k, ok, h1, h2, h3⟩ := effsOf_eff hj
          rw [Nat.zero_add] at h1; subst h1
          exact ⟨ok, by rw [← Array.getElem?_toList]; exact h2, h3⟩
        have hal : allowed B (effsOf P 0 ops.toList) i c = true := by
          refine allN_of fun j hj => ?_
          obtain ⟨oj, h1, h2⟩ := effE j hj
          obtain ⟨h3, h4⟩ := hall j oj h1 h2
          simp only [Bool.and_eq_true, Bool.or_eq_true, Bool.not_eq_true', Nat.blt_eq]
          refine ⟨?_, ?_⟩
          · cases hb : bitAt B i j with
            | false => exact .inl rfl
            | true => exact .inr (h3 hb)
          · cases hb : bitAt B j i with
            | false => exact .inl rfl
            | true => exact .inr (Nat.ble_eq_true_of_le (h4 hb))
        cases hs : sameCut (effsOf P 0 ops.toList) i c with
        | true =>
          right
          simp only [sameCut, Bool.and_eq_true] at hs
          refine ⟨Nat.le_of_ble_eq_true hs.1, fun j oj h1 h2 => ?_⟩
          have := effsOf_mem (P := P) (i := 0) (gi h1) h2
          rw [Nat.zero_add] at this
          have h3 := allN_mem hs.2 j this
          simp only [Bool.or_eq_true, Nat.blt_eq] at h3
          exact h3.imp id Nat.le_of_ble_eq_true
        | false =>
          left
          have := planOf_mem (P := P) (l := ops.toList) (i := 0) (k := i) (c := c) (B := B) (effs := effsOf P 0 ops.toList) (cuts := effsOf P 0 ops.toList ++ [len ops.toList]) (gi hi) he hcm (by rw [Nat.zero_add]; exact hal) (by rw [Nat.zero_add]; exact hs)
          rwa [Nat.zero_add] at this
    · cases h

end
end Go.SK

/- Code, sixth part: a region that draws its order. -/
namespace Go.SK
open Go

theorem optEq_true {a b : Option Nat} (h : optEq a b = true) : a = b := by
  cases a <;> cases b <;> simp [optEq] at h ⊢; exact h
theorem scEq_true : ∀ {a b : AV}, scEq a b = true → a = b := by
  intro a b h
  cases a with
  | bool x =>
    cases b with
    | bool y => cases x <;> cases y <;> simp [scEq] at h ⊢
    | _ => cases x <;> simp [scEq] at h
  | int k x =>
    cases b <;> simp [scEq] at h
    rw [keq_true h.1]
    have := h.2
    rw [ieq_eq] at this
    simp at this
    rw [this]
  | str s =>
    cases b <;> simp [scEq] at h
    rw [keyEq_true.leq_true h]
  | nilp => cases b <;> simp [scEq] at h; rfl
  | nils => cases b <;> simp [scEq] at h; rfl
  | nilf => cases b <;> simp [scEq] at h; rfl
  | nili => cases b <;> simp [scEq] at h; rfl
  | ptr x o => cases b <;> simp [scEq] at h; rw [h.1, h.2]
  | glob x o => cases b <;> simp [scEq] at h; rw [h.1, h.2]
  | slc x o n c => cases b <;> simp [scEq] at h; rw [h.1.1, h.1.2, h.2.1, optEq_true h.2.2]
  | mp r => cases b <;> simp [scEq] at h; rw [optEq_true h]
  | _ => simp [scEq] at h
theorem scsEq_true : ∀ {l m : List AV}, scsEq l m = true → l = m
  | [], [], _ => rfl
  | [], _ :: _, h => by simp [scsEq] at h
  | _ :: _, [], h => by simp [scsEq] at h
  | a :: l, b :: m, h => by
    simp only [scsEq, Bool.and_eq_true] at h
    rw [scEq_true h.1, scsEq_true h.2]
theorem avEq_true {a b : AV} (h : avEq a b = true) : a = b := by
  unfold avEq at h
  split at h
  · rw [scsEq_true h]
  · simp only [Bool.and_eq_true] at h
    rw [Nat.eq_of_beq_eq_true h.1, scEq_true h.2]
  · simp only [Bool.and_eq_true] at h
    rw [Nat.eq_of_beq_eq_true h.1, scsEq_true h.2.1, scsEq_true h.2.2]
  · exact scEq_true h

section
variable {P : Program} {w0 : World} {rec : Rec} {orc : Orc}

theorem pass1_spec {all : List Oper} {tm : T AV} : ∀ {os : List Oper} {loc : List (Nat × AV)} {H : Heap} {nx : Nat} {rs : List Rcd}, pass1 P rec orc all tm os loc H nx = some rs →
    (∃ r, rs[0]? = some r ∧ r.loc = loc ∧ r.H = H ∧ r.nx = nx) ∧ rs.length = os.length + 1 ∧
    ∀ k o, os[k]? = some o → ∃ r r', rs[k]? = some r ∧ rs[k + 1]? = some r' ∧ step1 P rec orc all tm o r.loc r.H r.nx = some (r.v, r'.H, r'.nx) ∧ r'.loc = putD r.loc o.dst r.v
  | [], loc, H, nx, rs, h => by
    simp only [pass1, Option.some.injEq] at h; subst h
    exact ⟨⟨_, rfl, rfl, rfl, rfl⟩, rfl, fun k o h => by simp at h⟩
  | o :: os, loc, H, nx, rs, h => by
    simp only [pass1] at h
    split at h
    · rename_i v H' nx' hs
      split at h
      · rename_i rs' hr
        cases h
        obtain ⟨⟨r0, a1, a2, a3, a4⟩, b, c⟩ := pass1_spec hr
        refine ⟨⟨_, rfl, rfl, rfl, rfl⟩, by simp [b], fun k q hq => ?_⟩
        cases k with
        | zero =>
          simp at hq; subst hq
          exact ⟨_, r0, rfl, by simpa using a1, by simp only; rw [hs, a3, a4], by rw [a2]⟩
        | succ k =>
          obtain ⟨r, r', c1, c2, c3, c4⟩ := c k q (by simpa using hq)
          exact ⟨r, r', by simpa using c1, by simpa using c2, c3, c4⟩
      · cases h
    · cases h

theorem again_mem {all : List Oper} {tm : T AV} {rs : List Rcd} : ∀ {pl : List (Nat × Nat)}, again P all tm rs pl = true → ∀ i c, (i, c) ∈ pl → ∃ ri rc o, rs[i]? = some ri ∧ rs[c]? = some rc ∧ all[i]? = some o ∧
    (wantedA ⟨ri.loc, tm⟩ all o.guard = some false ∨ ∃ H nx, aop P ⟨ri.loc, tm⟩ rc.H rc.nx o.op = some (.val ri.v H nx))
  | [], _, i, c, h => by cases h
  | (i', c') :: pl, h, i, c, hm => by
    simp only [again] at h
    split at h
    · rename_i ri rc o h1 h2 h3
      rw [nth_eq] at h1 h2 h3
      rw [Bool.and_eq_true] at h
      rcases List.mem_cons.1 hm with e | hm
      · cases e
        refine ⟨ri, rc, o, h1, h2, h3, ?_⟩
        have h4 := h.1
        split at h4
        · rename_i hw; exact .inl hw
        · right
          split at h4
          · rename_i v H nx ha
            exact ⟨H, nx, by rw [← avEq_true h4]; exact ha⟩
          · cases h4
      · exact again_mem h.2 i c hm
    · cases h

/-- a region's records -/
structure Recs (P : Program) (rec : Rec) (orc : Orc) (ops : Array Oper) (tm : T AV) (rs : Nat → Rcd) : Prop where
  first : (rs 0).loc = []
  step : ∀ i o, ops[i]? = some o → step1 P rec orc ops.toList tm o (rs i).loc (rs i).H (rs i).nx = some ((rs i).v, (rs (i + 1)).H, (rs (i + 1)).nx) ∧ (rs (i + 1)).loc = putD (rs i).loc o.dst (rs i).v

variable {ops : Array Oper} {tm : T AV} {rs : Nat → Rcd}

theorem Recs.still (h : Recs P rec orc ops tm rs) {i : Nat} {o : Oper} (hi : ops[i]? = some o) (he : isEff P o.op = false) : (rs (i + 1)).H = (rs i).H ∧ (rs (i + 1)).nx = (rs i).nx := by
  have h1 := (h.step i o hi).1
  unfold step1 at h1
  split at h1
  · cases ha : aop P ⟨(rs i).loc, tm⟩ (rs i).H (rs i).nx o.op with
    | none => rw [ha] at h1; cases h1
    | some r =>
      obtain ⟨v, rfl⟩ := aop_still he ha
      rw [ha] at h1
      simp only [stepVal, Option.some.injEq, Prod.mk.injEq] at h1
      exact ⟨h1.2.1.symm, h1.2.2.symm⟩
  · simp only [Option.some.injEq, Prod.mk.injEq] at h1
    exact ⟨h1.2.1.symm, h1.2.2.symm⟩
  · cases h1

theorem Recs.between (h : Recs P rec orc ops tm rs) {i c : Nat} (hc : c ≤ ops.size) (hi : i ≤ c) (hn : ∀ j o, ops[j]? = some o → isEff P o.op = true → j < i ∨ c ≤ j) : (rs c).H = (rs i).H ∧ (rs c).nx = (rs i).nx := by
  obtain ⟨d, rfl⟩ : ∃ d, c = i + d := ⟨c - i, by omega⟩
  induction d with
  | zero => exact ⟨rfl, rfl⟩
  | succ d ih =>
    obtain ⟨h1, h2⟩ := ih (by omega) (by omega) (fun j o hj he => (hn j o hj he).imp id (fun x => by omega))
    have hlt : i + d < ops.size := by omega
    have ho : ops[i + d]? = some (ops[i + d]'hlt) := Array.getElem?_eq_getElem hlt
    have he : isEff P (ops[i + d]'hlt).op = false := by
      cases he : isEff P (ops[i + d]'hlt).op with
      | false => rfl
      | true => rcases hn _ _ ho he with x | x <;> omega
    obtain ⟨h3, h4⟩ := h.still ho he
    exact ⟨h3.trans h1, h4.trans h2⟩

theorem look_putD {t : Nat} {d : Option Tmp} {v : AV} {l : List (Nat × AV)} (h : d ≠ some t) : look tm t (putD l d v) = look tm t l := by
  cases d with
  | none => rfl
  | some s => simp only [putD]; rw [look_cons, if_neg (fun e => h (by rw [e]))]
theorem look_putD_same {t : Nat} {v : AV} {l : List (Nat × AV)} : look tm t (putD l (some t) v) = some v := by simp only [putD]; rw [look_cons, if_pos rfl]

theorem Recs.look_none (h : Recs P rec orc ops tm rs) {t : Nat} : ∀ {i : Nat}, i ≤ ops.size → (∀ j o, ops[j]? = some o → j < i → o.dst ≠ some t) → look tm t (rs i).loc = tm.get t
  | 0, _, _ => by rw [h.first]; rfl
  | i + 1, hi, hn => by
    have ho : ops[i]? = some (ops[i]'(by omega)) := Array.getElem?_eq_getElem (by omega)
    rw [(h.step i _ ho).2, look_putD (hn i _ ho (by omega))]
    exact h.look_none (by omega) fun j o hj hlt => hn j o hj (by omega)
theorem Recs.look_some (h : Recs P rec orc ops tm rs) {t j : Nat} {oj : Oper} (hj : ops[j]? = some oj) (hd : oj.dst = some t) (hu : ∀ k o, ops[k]? = some o → k ≠ j → o.dst ≠ some t) :
    ∀ {i : Nat}, j < i → i ≤ ops.size → look tm t (rs i).loc = some (rs j).v
  | 0, hlt, _ => by omega
  | i + 1, hlt, hi => by
    have ho : ops[i]? = some (ops[i]'(by omega)) := Array.getElem?_eq_getElem (by omega)
    rw [(h.step i _ ho).2]
    by_cases e : i = j
    · subst e
      rw [hj] at ho; cases ho
      rw [hd, look_putD_same]
    · rw [look_putD (hu i _ ho e)]
      exact h.look_some hj hd hu (by omega) (by omega)

end
end Go.SK

/- Code, seventh part: a region that draws its order is sound. -/
namespace Go.SK
open Go

def Lst (listed : Array Bool) (i : Nat) : Prop := listed.getD i false = true

theorem Lst.set {listed : Array Bool} {i j : Nat} (hi : i < listed.size) : Lst (listed.setIfInBounds i true) j ↔ j = i ∨ Lst listed j := by
  unfold Lst
  rw [Array.getD_eq_getD_getElem?, Array.getD_eq_getD_getElem?]
  by_cases e : j = i
  · subst e
    rw [Array.getElem?_setIfInBounds_self_of_lt hi]; simp
  · rw [Array.getElem?_setIfInBounds_ne (fun x => e x.symm)]; simp [e]

theorem put_other {a : Act} {d : Option Tmp} {u : Value} {t : Nat} (h : d ≠ some t) : (a.put d u).tmps[t]? = a.tmps[t]? := by
  cases d with
  | none => rfl
  | some d => simp only [Act.put]; rw [Array.getElem?_setIfInBounds_ne (fun e => h (by rw [e]))]
theorem put_same {a : Act} {t : Nat} {u : Value} (h : t < a.tmps.size) : (a.put (some t) u).tmps[t]? = some u := by
  simp only [Act.put]; rw [Array.getElem?_setIfInBounds_self_of_lt h]

structure Inv (P : Program) (w0 : World) (σ0 : Sg) (ops : Array Oper) (tm : T AV) (rs : Nat → Rcd) (nt : Nat) (ds : List Deferred) (listed : Array Bool) (c : Nat) (τ : Sg) (a : Act) (w : World) : Prop where
  len : listed.size = ops.size
  clo : Clo ops (Lst listed)
  le : Sg.le σ0 τ
  cutAt : c = ops.size ∨ ∃ oc, ops[c]? = some oc ∧ isEff P oc.op = true
  cut : ∀ i o, ops[i]? = some o → isEff P o.op = true → (Lst listed i ↔ i < c)
  rel : Rel P w0 τ (rs c).nx (rs c).H w
  writ : ∀ (j : Nat) (o : Oper) (t : Nat), Lst listed j → ops[j]? = some o → o.dst = some t → ∃ u, a.tmps[t]? = some u ∧ VR τ (rs j).v u
  unwr : ∀ t : Nat, (∀ (j : Nat) (o : Oper), Lst listed j → ops[j]? = some o → o.dst ≠ some t) → ∀ b, tm.get t = some b → ∃ u, a.tmps[t]? = some u ∧ VR τ b u
  size : a.tmps.size = nt
  defers : a.defers = ds

section
variable {P : Program} {w0 : World} {rec : Rec} {orc : Orc} {F : Fence} {ops : Array Oper} {tm : T AV} {rs : Nat → Rcd} {pl : List (Nat × Nat)} {σ0 τ : Sg} {nt c : Nat} {ds : List Deferred} {listed : Array Bool} {a : Act} {w : World}

theorem Inv.opd (h : Inv P w0 σ0 ops tm rs nt ds listed c τ a w) (hp : Plan P ops pl) (hrs : Recs P rec orc ops tm rs) {i : Nat} {o : Oper} (hi : ops[i]? = some o) (hn : ¬ Lst listed i)
    (hed : ∀ e ∈ o.after, Region.binds .any e = true → Lst listed e.on) : OpdOn τ ⟨(rs i).loc, tm⟩ a.eval o.op.operands.toList := by
  have hlt : i < ops.size := (Array.getElem?_eq_some_iff.1 hi).1
  intro x hx b hb
  have triv : EnvR τ ⟨[], .e⟩ a.tmps := fun t b hb => by cases hb
  cases x with
  | const v => exact OpdOn.of_env triv [.const v] (.const v) (by simp) b hb
  | global g => exact OpdOn.of_env triv [.global g] (.global g) (by simp) b hb
  | func f => exact OpdOn.of_env triv [.func f] (.func f) (by simp) b hb
  | tmp t =>
    have hb' : look tm t (rs i).loc = some b := hb
    have : ∃ u, a.tmps[t]? = some u ∧ VR τ b u := by
      by_cases hex : ∃ j oj, j ≠ i ∧ ops[j]? = some oj ∧ oj.dst = some t
      · obtain ⟨j, oj, hne, hj, hd⟩ := hex
        have hu : ∀ k ok, ops[k]? = some ok → k ≠ j → ok.dst ≠ some t := fun k ok hk hkj => hp.uniq k j ok oj t hk hj hkj hd
        rcases hp.apart i j o oj t hi hj (fun e => hne e.symm) hd hx with hbit | hbit
        · have hL := hp.clo _ h.clo i o hi hed j hbit
          rw [hrs.look_some hj hd hu (hp.lt i j hbit) (by omega)] at hb'
          cases hb'
          exact h.writ j oj t hL hj hd
        · have hL : ¬ Lst listed j := fun hL => hn (hp.clo _ h.clo j oj hj (fun e he hbe => h.clo j oj hj hL e he hbe) i hbit)
          have hij := hp.lt j i hbit
          rw [hrs.look_none (by omega) (fun k ok hk hki => hu k ok hk (by omega))] at hb'
          exact h.unwr t (fun k ok hLk hk => hu k ok hk (fun e => hL (e ▸ hLk))) b hb'
      · rw [hrs.look_none (by omega) (fun k ok hk hki hd => hex ⟨k, ok, by omega, hk, hd⟩)] at hb'
        exact h.unwr t (fun k ok hLk hk hd => hex ⟨k, ok, fun e => hn (e ▸ hLk), hk, hd⟩) b hb'
    obtain ⟨u, u1, u2⟩ := this
    simp only [Act.eval]
    rw [Array.getD_eq_getD_getElem?, u1]; exact u2

theorem Inv.guard (h : Inv P w0 σ0 ops tm rs nt ds listed c τ a w) (hp : Plan P ops pl) (hrs : Recs P rec orc ops tm rs) {i : Nat} {o : Oper} (hi : ops[i]? = some o)
    (hed : ∀ e ∈ o.after, Region.binds .any e = true → Lst listed e.on) {q : Bool} (hq : wantedA ⟨(rs i).loc, tm⟩ ops.toList o.guard = some q) : Region.wanted o (yielded ops a.tmps) = q := by
  have hlt : i < ops.size := (Array.getElem?_eq_some_iff.1 hi).1
  cases hg : o.guard with
  | none =>
    rw [hg] at hq
    simp only [wantedA, Option.some.injEq] at hq
    subst hq
    simp [Region.wanted, hg]
  | some g =>
    rw [hg] at hq
    refine wanted_ok (σ := τ) (E := ⟨(rs i).loc, tm⟩) (j := g.1) (wt := g.2) hg hq fun p d x hpj hd hb => ?_
    have hbit := hp.guard i o g.1 g.2 hi hg
    have hL := hp.clo _ h.clo i o hi hed g.1 hbit
    rw [hrs.look_some hpj hd (fun k ok hk hkj => hp.uniq k g.1 ok p d hk hpj hkj hd) (hp.lt i g.1 hbit) (by omega)] at hb
    cases hb
    exact h.writ g.1 p d hL hpj hd

theorem Inv.next (h : Inv P w0 σ0 ops tm rs nt ds listed c τ a w) (hp : Plan P ops pl) {i : Nat} {o : Oper} (hi : ops[i]? = some o) (hd : ∀ t, o.dst = some t → t < nt)
    (hed : ∀ e ∈ o.after, Region.binds .any e = true → Lst listed e.on) {c' : Nat} {τ' : Sg} {u : Value} {w' : World} (hle : Sg.le τ τ') (hu : VR τ' (rs i).v u) (hR : Rel P w0 τ' (rs c').nx (rs c').H w')
    (hc : c' = ops.size ∨ ∃ oc, ops[c']? = some oc ∧ isEff P oc.op = true) (hcut : ∀ j oj, ops[j]? = some oj → isEff P oj.op = true → (j = i ∨ Lst listed j ↔ j < c')) :
    Inv P w0 σ0 ops tm rs nt ds (listed.setIfInBounds i true) c' τ' (a.put o.dst u) w' := by
  have hlt : i < ops.size := (Array.getElem?_eq_some_iff.1 hi).1
  have hlt' : i < listed.size := by rw [h.len]; exact hlt
  refine ⟨by simp [h.len], ?_, Sg.le_trans h.le hle, hc, fun j oj hj he => by rw [Lst.set hlt']; exact hcut j oj hj he, hR, ?_, ?_, by rw [put_size, h.size], by rw [put_defers, h.defers]⟩
  · intro k ok hk hL e he hb
    rw [Lst.set hlt'] at hL ⊢
    right
    rcases hL with rfl | hL
    · rw [hi] at hk; cases hk
      exact hed e he hb
    · exact h.clo k ok hk hL e he hb
  · intro j oj t hL hj hd'
    rw [Lst.set hlt'] at hL
    by_cases e : j = i
    · subst e
      rw [hi] at hj; cases hj
      rw [hd']
      exact ⟨u, put_same (by rw [h.size]; exact hd t hd'), hu⟩
    · obtain ⟨x, x1, x2⟩ := h.writ j oj t (hL.resolve_left e) hj hd'
      exact ⟨x, by rw [put_other (hp.uniq i j o oj t hi hj (fun x => e x.symm) hd')]; exact x1, x2.mono hle⟩
  · intro t hno b hb
    have h1 : o.dst ≠ some t := hno i o ((Lst.set hlt').2 (.inl rfl)) hi
    obtain ⟨x, x1, x2⟩ := h.unwr t (fun j oj hL hj => hno j oj ((Lst.set hlt').2 (.inr hL)) hj) b hb
    exact ⟨x, by rw [put_other h1]; exact x1, x2.mono hle⟩

theorem nextCut (P : Program) (ops : Array Oper) : ∀ (d i : Nat), i + d = ops.size → ∃ c, i ≤ c ∧ c ≤ ops.size ∧ (c = ops.size ∨ ∃ oc, ops[c]? = some oc ∧ isEff P oc.op = true) ∧ ∀ j oj, ops[j]? = some oj → isEff P oj.op = true → j < i ∨ c ≤ j
  | 0, i, h => ⟨i, Nat.le_refl _, by omega, .inl (by omega), fun j oj hj _ => by have := (Array.getElem?_eq_some_iff.1 hj).1; left; omega⟩
  | d + 1, i, h => by
    have ho : ops[i]? = some (ops[i]'(by omega)) := Array.getElem?_eq_getElem (by omega)
    cases he : isEff P (ops[i]'(by omega)).op with
    | true => exact ⟨i, Nat.le_refl _, by omega, .inr ⟨_, ho, he⟩, fun j oj _ _ => by omega⟩
    | false =>
      obtain ⟨c, h1, h2, h3, h4⟩ := nextCut P ops d (i + 1) (by omega)
      refine ⟨c, by omega, h2, h3, fun j oj hj hej => ?_⟩
      rcases h4 j oj hj hej with h5 | h5
      · by_cases e : j = i
        · subst e; rw [ho] at hj; cases hj; rw [he] at hej; cases hej
        · left; omega
      · exact .inr h5

theorem count_set {l : List Bool} {i : Nat} (h : l[i]? = some false) : (l.set i true).count false + 1 = l.count false := by
  induction l generalizing i with
  | nil => simp at h
  | cons x l ih =>
    cases i with
    | zero => simp at h; subst h; simp
    | succ i =>
      have := ih (i := i) (by simpa using h)
      simp only [List.set_cons_succ, List.count_cons]
      omega

theorem any_ok (hF : Wide F) (hC : FoundOk P w0 (callA P rec orc)) (hY : RoundsOk P w0 (roundA P rec)) (hp : Plan P ops pl) (hrs : Recs P rec orc ops tm rs) (hd : dstsOk nt ops.toList = true)
    (hag : ∀ i c, (i, c) ∈ pl → ∃ o, ops[i]? = some o ∧ (wantedA ⟨(rs i).loc, tm⟩ ops.toList o.guard = some false ∨ ∃ H nx, aop P ⟨(rs i).loc, tm⟩ (rs c).H (rs c).nx o.op = some (.val (rs i).v H nx)))
    {Q : Exit → Act → World → Prop} (hQ : ∀ τ a w, Sg.le σ0 τ → Rel P w0 τ (rs ops.size).nx (rs ops.size).H w → EnvR τ ⟨(rs ops.size).loc, tm⟩ a.tmps → a.tmps.size = nt → a.defers = ds → Q .normal a w) :
    ∀ (fuel : Nat) (listed : Array Bool) (c : Nat) (τ : Sg) (a : Act) (w : World), Inv P w0 σ0 ops tm rs nt ds listed c τ a w → listed.toList.count false ≤ fuel → wpAnyIn F 0 P .any ops Q fuel listed a w := by
  -- when all have come about
  have fin : ∀ (listed : Array Bool) (c : Nat) (τ : Sg) (a : Act) (w : World), Inv P w0 σ0 ops tm rs nt ds listed c τ a w → (∀ i, i < ops.size → Lst listed i) → Q .normal a w := by
    intro listed c τ a w h hall
    have hc : c = ops.size := by
      rcases h.cutAt with e | ⟨oc, h1, h2⟩
      · exact e
      · have := (h.cut c oc h1 h2).1 (hall c (Array.getElem?_eq_some_iff.1 h1).1)
        omega
    refine hQ τ a w h.le (hc ▸ h.rel) ?_ h.size h.defers
    intro t b hb
    by_cases hex : ∃ (j : Nat) (oj : Oper), ops[j]? = some oj ∧ oj.dst = some t
    · obtain ⟨j, oj, hj, hdj⟩ := hex
      have hlt : j < ops.size := (Array.getElem?_eq_some_iff.1 hj).1
      have hb' : look tm t (rs ops.size).loc = some b := hb
      rw [hrs.look_some hj hdj (fun k ok hk hkj => hp.uniq k j ok oj t hk hj hkj hdj) hlt (Nat.le_refl _)] at hb'
      cases hb'
      exact h.writ j oj t (hall j hlt) hj hdj
    · have hb' : look tm t (rs ops.size).loc = some b := hb
      rw [hrs.look_none (Nat.le_refl _) (fun k ok hk _ hdk => hex ⟨k, ok, hk, hdk⟩)] at hb'
      exact h.unwr t (fun k ok _ hk hdk => hex ⟨k, ok, hk, hdk⟩) b hb'
  -- when nothing more may come up
  have done : ∀ (listed : Array Bool) (c : Nat) (τ : Sg) (a : Act) (w : World), Inv P w0 σ0 ops tm rs nt ds listed c τ a w → Region.ready .any ops listed = [] → Q .normal a w := by
    intro listed c τ a w h hr
    refine fin listed c τ a w h fun i => ?_
    induction i using Nat.strongRecOn with
    | _ i ih =>
      intro hlt
      have ho : ops[i]? = some (ops[i]'hlt) := Array.getElem?_eq_getElem hlt
      have hil : i < listed.size := by rw [h.len]; exact hlt
      cases hb : listed[i]'hil with
      | true => simp [Lst, Array.getD, hil, hb]
      | false =>
        have : i ∈ Region.ready .any ops listed := by
          rw [mem_ready]
          refine ⟨by simp [Array.getD, hil, hb], _, ho, fun e he hbe => ?_⟩
          have := hp.edge i _ ho e he hbe
          exact ih e.on this (by omega)
        rw [hr] at this; cases this
  intro fuel
  induction fuel with
  | zero =>
    intro listed c τ a w h hcount
    have hall : ∀ i, i < ops.size → Lst listed i := by
      intro i hlt
      have hil : i < listed.size := by rw [h.len]; exact hlt
      cases hb : listed[i]'hil with
      | true => simp [Lst, Array.getD, hil, hb]
      | false =>
        have : 0 < listed.toList.count false := List.count_pos_iff.2 (by rw [← hb]; simp)
        omega
    refine ⟨?_, fin listed c τ a w h hall⟩
    cases hr : Region.ready .any ops listed with
    | nil => rfl
    | cons i l =>
      have : i ∈ Region.ready .any ops listed := by rw [hr]; simp
      rw [mem_ready] at this
      obtain ⟨h1, o, ho, _⟩ := this
      have hlt := (Array.getElem?_eq_some_iff.1 ho).1
      have h2 := hall i hlt
      have hil : i < listed.size := by rw [h.len]; exact hlt
      simp [Lst, Array.getD, hil] at h1 h2
      rw [h1] at h2; cases h2
  | succ fuel ih =>
    intro listed c τ a w h hcount
    refine ⟨done listed c τ a w h, fun i hi => ?_⟩
    rw [mem_ready] at hi
    obtain ⟨h1, o, ho, hed⟩ := hi
    have hlt := (Array.getElem?_eq_some_iff.1 ho).1
    have hil : i < listed.size := by rw [h.len]; exact hlt
    have hb : listed[i]'hil = false := by simpa [Array.getD, hil] using h1
    have hnL : ¬ Lst listed i := by simp [Lst, Array.getD, hil, hb]
    have hdst := dstsOk_mem hd o (List.mem_of_getElem? (by rw [Array.getElem?_toList]; exact ho))
    have hcnt : (listed.setIfInBounds i true).toList.count false ≤ fuel := by
      have := count_set (l := listed.toList) (i := i) (by rw [Array.getElem?_toList, Array.getElem?_eq_getElem hil, hb])
      rw [Array.toList_setIfInBounds]
      omega
    -- what behind the operation is asked
    have step : ∀ (c' : Nat) (τ' : Sg) (u : Value) (w' : World), Sg.le τ τ' → VR τ' (rs i).v u → Rel P w0 τ' (rs c').nx (rs c').H w' → (c' = ops.size ∨ ∃ oc, ops[c']? = some oc ∧ isEff P oc.op = true) →
        (∀ j oj, ops[j]? = some oj → isEff P oj.op = true → (j = i ∨ Lst listed j ↔ j < c')) → wpAnyIn F 0 P .any ops Q fuel (listed.setIfInBounds i true) (a.put o.dst u) w' :=
      fun c' τ' u w' k1 k2 k3 k4 k5 => ih _ c' τ' _ w' (h.next hp ho hdst hed k1 k2 k3 k4 k5) hcnt
    have hstep := (hrs.step i o ho).1
    have hopd := h.opd hp hrs ho hnL hed
    unfold step1 at hstep
    simp only [wpOpIn, ho]
    cases he : isEff P o.op with
    | true =>
      -- an effect: all effects ahead of it have come about, and it is the next
      have hci : c = i := by
        have h2 : i < c → False := fun x => hnL ((h.cut i o ho he).2 x)
        rcases Nat.lt_trichotomy c i with x | x | x
        · rcases h.cutAt with e | ⟨oc, q1, q2⟩
          · omega
          · have hbit := hp.effs i c o oc ho q1 he q2 x
            have hL := hp.clo _ h.clo i o ho hed c hbit
            have := (h.cut c oc q1 q2).1 hL
            omega
        · exact x
        · exact (h2 x).elim
      subst hci
      obtain ⟨c', k1, k2, k3, k4⟩ := nextCut P ops (ops.size - (c + 1)) (c + 1) (by omega)
      obtain ⟨b1, b2⟩ := hrs.between k2 k1 k4
      have hcut : ∀ j oj, ops[j]? = some oj → isEff P oj.op = true → (j = c ∨ Lst listed j ↔ j < c') := by
        intro j oj hj hej
        rw [h.cut j oj hj hej]
        rcases k4 j oj hj hej with x | x <;> constructor <;> intro y <;> omega
      split at hstep
      · rename_i hw
        rw [if_pos (h.guard hp hrs ho hed hw)]
        exact opIn_ok hF hC hY hstep h.rel hopd fun τ' u w' j1 j2 j3 => step c' τ' u w' j1 j2 (by rw [b1, b2]; exact j3) k3 hcut
      · rename_i hw
        rw [if_neg (by rw [h.guard hp hrs ho hed hw]; simp)]
        simp only [Option.some.injEq, Prod.mk.injEq] at hstep
        obtain ⟨s1, s2, s3⟩ := hstep
        exact ⟨fun f _ => hF.fn f, step c' τ Go.undef w (Sg.le_refl _) (by rw [← s1]; exact VR.undef τ) (by rw [b1, b2, ← s2, ← s3]; exact h.rel) k3 hcut⟩
      · cases hstep
    | false =>
      have hcut : ∀ j oj, ops[j]? = some oj → isEff P oj.op = true → (j = i ∨ Lst listed j ↔ j < c) := by
        intro j oj hj hej
        rw [← h.cut j oj hj hej]
        constructor
        · rintro (rfl | y)
          · rw [ho] at hj; cases hj; rw [he] at hej; cases hej
          · exact y
        · exact .inr
      split at hstep
      · rename_i hw
        rw [if_pos (h.guard hp hrs ho hed hw)]
        have hal : ∀ j oj, ops[j]? = some oj → isEff P oj.op = true → (bitAt hp.B i j = true → j < c) ∧ (bitAt hp.B j i = true → c ≤ j) := by
          intro j oj hj hej
          refine ⟨fun hbit => (h.cut j oj hj hej).1 (hp.clo _ h.clo i o ho hed j hbit), fun hbit => ?_⟩
          rcases Nat.lt_or_ge j c with x | x
          · exact (hnL (hp.clo _ h.clo j oj hj (fun e he' hbe => h.clo j oj hj ((h.cut j oj hj hej).2 x) e he' hbe) i hbit)).elim
          · exact x
        have hv : stepVal P rec orc (aop P ⟨(rs i).loc, tm⟩ (rs c).H (rs c).nx o.op) = some ((rs i).v, (rs c).H, (rs c).nx) := by
          rcases hp.pairs i o c ho he h.cutAt hal with hm | ⟨x, y⟩
          · obtain ⟨o', q1, q2⟩ := hag i c hm
            rw [ho] at q1; cases q1
            rcases q2 with q2 | ⟨H2, nx2, q2⟩
            · rw [hw] at q2; cases q2
            · obtain ⟨v, q3⟩ := aop_still he q2
              rw [q2]
              cases q3
              rfl
          · have hcle : c ≤ ops.size := by
              rcases h.cutAt with e | ⟨oc, q1, _⟩
              · omega
              · have := (Array.getElem?_eq_some_iff.1 q1).1; omega
            obtain ⟨b1, b2⟩ := hrs.between hcle x y
            obtain ⟨s1, s2⟩ := hrs.still ho he
            rw [b1, b2, hstep, s1, s2]
        exact opIn_ok hF hC hY hv h.rel hopd fun τ' u w' j1 j2 j3 => step c τ' u w' j1 j2 j3 h.cutAt hcut
      · rename_i hw
        rw [if_neg (by rw [h.guard hp hrs ho hed hw]; simp)]
        simp only [Option.some.injEq, Prod.mk.injEq] at hstep
        obtain ⟨s1, s2, s3⟩ := hstep
        exact ⟨fun f _ => hF.fn f, step c τ Go.undef w (Sg.le_refl _) (by rw [← s1]; exact VR.undef τ) h.rel h.cutAt hcut⟩
      · cases hstep

theorem drawA_ok (hm : P.follows .mixedOrders = true) (hF : Wide F) (hC : FoundOk P w0 (callA P rec orc)) (hY : RoundsOk P w0 (roundA P rec)) {id : Nat} {fn : FuncId} {mask : Nat} {st st' : St} {e : AExit} {σ : Sg}
    (hpl : plan P ops.toList = some pl) (h : drawA P rec orc fn mask pl ops.toList st = some (e, st')) (hf : Frm P w0 σ fn st a w) : (Code.region id ops true).wpIn F 0 P (Post P w0 σ fn e st') a w := by
  unfold drawA at h
  split at h
  · rename_i hd
    split at h
    · rename_i rl hpass
      split at h
      · rename_i r hag hr
        cases h
        rw [len_eq, nth_eq] at hr
        obtain ⟨⟨r0, a1, a2, a3, a4⟩, b, cst⟩ := pass1_spec hpass
        obtain ⟨hp⟩ := plan_ok hpl
        let rs : Nat → Rcd := fun k => (rl[k]?).getD ⟨[], .e, 0, undef⟩
        have hrsk : ∀ {k r}, rl[k]? = some r → rs k = r := fun h => by simp only [rs, h, Option.getD_some]
        have hrs : Recs P rec orc ops st.tm rs := by
          refine ⟨by rw [hrsk a1, a2], fun i o hi => ?_⟩
          obtain ⟨q, q', c1, c2, c3, c4⟩ := cst i o (by rw [Array.getElem?_toList]; exact hi)
          rw [hrsk c1, hrsk c2]
          exact ⟨c3, c4⟩
        have hrn : rs ops.size = r := hrsk (by simpa using hr)
        refine wpIn_region_any hm (any_ok (σ0 := σ) (ds := a.defers) hF hC hY hp hrs hd ?_ ?_ ops.size _ ((nextCut P ops ops.size 0 (by omega)).choose) σ a _ ?_ (by simp))
        · intro i c hic
          obtain ⟨ri, rc, o, q1, q2, q3, q4⟩ := again_mem hag i c hic
          refine ⟨o, by rw [← Array.getElem?_toList]; exact q3, ?_⟩
          rw [hrsk q1, hrsk q2]; exact q4
        · intro τ a' w' k1 k2 k3 k4 k5
          rw [hrn] at k2 k3
          exact ⟨rfl, τ, k1, k2, flush_ok k3, k4, by rw [k5]; exact hf.marks.mono k1⟩
        · obtain ⟨k1, k2, k3, k4⟩ := (nextCut P ops ops.size 0 (by omega)).choose_spec
          generalize (nextCut P ops ops.size 0 (by omega)).choose = c at *
          have hnone : ∀ i, ¬ Lst (Array.replicate ops.size false) i := by
            intro i hL
            unfold Lst at hL
            rw [Array.getD_eq_getD_getElem?] at hL
            by_cases hlt : i < ops.size
            · simp [hlt] at hL
            · simp [hlt] at hL
          obtain ⟨b1, b2⟩ := hrs.between k2 k1 k4
          refine ⟨by simp, fun i o _ hL => (hnone i hL).elim, Sg.le_refl _, k3, fun i o hi he => ⟨fun hL => (hnone i hL).elim, fun x => ?_⟩, ?_, fun j o t hL => (hnone j hL).elim, fun t _ b hb => hf.tm t b hb, hf.size, rfl⟩
          · rcases k4 i o hi he with y | y <;> omega
          · rw [b1, b2, hrsk a1, a3, a4]
            exact hf.rel.drew
      · cases h
    · cases h
  · cases h

end
end Go.SK

