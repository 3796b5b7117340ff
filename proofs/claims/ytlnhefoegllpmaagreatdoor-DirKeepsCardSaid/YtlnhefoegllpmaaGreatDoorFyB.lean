/- The faster evaluator answers what the first one answers: code, runs, calls that are looked at alone. Conditions: none. -/
import Derived.Test.YtlnhefoegllpmaaGreatDoorFyA
/- The faster evaluator, fifth part: regions, code, runs. -/
namespace Go.SK
open Go

section
variable {P : Program} {kp : FuncId → Nat} {recK : RecK} {rec : Rec} {sd : Std} {orc : Orc} {D : Nat} {c : CEnv} {s : List AV} {tm : T AV} {H : Heap} {nx : Nat} {K : Kn} {r : Ans}

theorem doneOp_sv (d : Option Tmp) (loc : List (Nat × AV)) (k : List (Nat × AV) → Heap → Nat → OpsR) (o : Option OpR) :
    doneOp P rec orc d loc k o = match stepVal P rec orc o with | some (v, H, nx) => k (putD loc d v) H nx | none => none := by
  unfold doneOp stepVal
  cases o with
  | none => rfl
  | some o => cases o with
    | val v H nx => rfl
    | call f args H nx => rfl
    | yield l args H nx => rfl
theorem stepOp_eq (all : List Oper) (o : Oper) (k : List (Nat × AV) → Heap → Nat → OpsR) (loc : List (Nat × AV)) :
    stepOp P rec orc all tm o k loc H nx = match step1 P rec orc all tm o loc H nx with | some (v, H, nx) => k (putD loc o.dst v) H nx | none => none := by
  unfold stepOp cstep step1
  split
  · rename_i hg
    rw [hg]
    simp only [wantedA, doneOp_sv]
  · rename_i g hg
    rw [hg]
    simp only [guarded]
    cases wantedA ⟨loc, tm⟩ all (some g) with
    | none => rfl
    | some b => cases b with
      | true => simp only [doneOp_sv]
      | false => rfl

theorem fstep_ok (hX : RefK P kp recK rec) (hS : StdOk sd orc) (hL : LR D c s) (hr : r ≠ .bad) {all : List Oper} {o : Oper} (h : (fstep P sd all D c o).ap recK tm K s H nx = r) :
    ∃ v H' nx', step1 P rec orc all tm o (locOf D c s) H nx = some (v, H', nx') ∧ K (v :: s) H' nx' = r := by
  unfold fstep at h
  split at h
  · rename_i hg
    obtain ⟨v, H', nx', h1, h2⟩ := fop_ok hX hS hL hr h
    exact ⟨v, H', nx', by unfold step1; rw [hg]; exact h1, h2⟩
  · rename_i j w hg
    split at h
    · rename_i p hp
      split at h
      · rename_i d hd
        obtain ⟨g, hv, h1⟩ := gTmp_ok hL h hr
        rcases kGuard_ok h1 hr with ⟨b, e, h2⟩ | ⟨vs, e, h2⟩
        · rw [e] at hv
          rw [kIf_eq] at h2
          split at h2
          · rename_i hb
            obtain ⟨v, H', nx', h3, h4⟩ := fop_ok hX hS hL hr h2
            exact ⟨v, H', nx', by unfold step1; rw [hg]; simp only [wantedA, hp, hd, hv, hb]; exact h3, h4⟩
          · rename_i hb
            simp only [Bool.not_eq_true] at hb
            exact ⟨undef, H, nx, by unfold step1; rw [hg]; simp only [wantedA, hp, hd, hv, hb], h2⟩
        · rw [e] at hv
          exact ⟨undef, H, nx, by unfold step1; rw [hg]; simp only [wantedA, hp, hd, hv], h2⟩
      · exact bad_absurd h hr
    · exact bad_absurd h hr

theorem LR.cons {p : Nat × Lc} (hL : LR D c s) (hp : ∀ n, p.2 = .lv n → n < D) : LR D (p :: c) s :=
  ⟨hL.1, fun q hq => by
    rcases List.mem_cons.1 hq with rfl | hq
    · exact hp
    · exact hL.2 q hq⟩
theorem LR.push (hL : LR D c s) (d : Option Tmp) (v : AV) : LR (Nat.succ D) (pushC D c d) (v :: s) := by
  refine ⟨by simp [hL.1], fun p hp n hn => ?_⟩
  unfold pushC at hp
  split at hp
  · rcases List.mem_cons.1 hp with rfl | hp
    · cases hn; exact Nat.lt_succ_self _
    · exact Nat.lt_succ_of_lt (hL.2 p hp n hn)
  · exact Nat.lt_succ_of_lt (hL.2 p hp n hn)
theorem locOf_pushC (hL : LR D c s) (d : Option Tmp) (v : AV) : locOf (Nat.succ D) (pushC D c d) (v :: s) = putD (locOf D c s) d v := by
  cases d with
  | none => exact locOf_push v hL.2
  | some d =>
    show (d, valLc (D + 1) (.lv D) (v :: s)) :: locOf (D + 1) c (v :: s) = (d, v) :: locOf D c s
    rw [locOf_push v hL.2]
    have : valLc (D + 1) (.lv D) (v :: s) = v := by
      simp only [valLc]
      rw [show Nat.sub (D + 1) (Nat.succ D) = 0 from Nat.sub_self (D + 1)]
      simp only [nth]
    rw [this]

theorem aliasOf_ok (hL : LR D c s) {all : List Oper} {o : Oper} {p : Nat × Lc} (h : aliasOf c o = some p) :
    step1 P rec orc all tm o (locOf D c s) H nx = some (valLc D p.2 s, H, nx) ∧ o.dst = some p.1 ∧ ∀ n, p.2 = .lv n → n < D := by
  unfold aliasOf at h
  split at h
  · rename_i d hg hd
    have key : ∀ {t : Nat}, (clook t c).map (fun l => (d, l)) = some p → (look tm t (locOf D c s) = some (valLc D p.2 s) ∧ d = p.1 ∧ ∀ n, p.2 = .lv n → n < D) := by
      intro t ht
      rw [look_locOf]
      cases hc : clook t c with
      | none => rw [hc] at ht; cases ht
      | some l =>
        rw [hc] at ht
        cases ht
        obtain ⟨q, hq, e⟩ := clook_mem hc
        exact ⟨rfl, rfl, fun n hn => hL.2 q hq n (by rw [e]; exact hn)⟩
    have keyc : ∀ {v : Value}, (ofZero v).map (fun a => (d, Lc.cst a)) = some p → (ofZero v = some (valLc D p.2 s) ∧ d = p.1 ∧ ∀ n, p.2 = .lv n → n < D) := by
      intro v hv
      cases hz : ofZero v with
      | none => rw [hz] at hv; cases hv
      | some a => rw [hz] at hv; cases hv; exact ⟨rfl, rfl, fun n hn => by cases hn⟩
    split at h
    · rename_i t ho
      obtain ⟨h1, h2, h3⟩ := key h
      exact ⟨by simp only [step1, hg, wantedA, ho, aop, cop, opMove, ev, cev, h1, stepVal], by rw [hd, h2], h3⟩
    · rename_i t ho
      obtain ⟨h1, h2, h3⟩ := key h
      exact ⟨by simp only [step1, hg, wantedA, ho, aop, cop, opMove, ev, cev, h1, stepVal], by rw [hd, h2], h3⟩
    · rename_i v ho
      obtain ⟨h1, h2, h3⟩ := keyc h
      exact ⟨by simp only [step1, hg, wantedA, ho, aop, cop, opMove, ev, cev, h1, stepVal], by rw [hd, h2], h3⟩
    · rename_i v ho
      obtain ⟨h1, h2, h3⟩ := keyc h
      exact ⟨by simp only [step1, hg, wantedA, ho, aop, cop, opMove, ev, cev, h1, stepVal], by rw [hd, h2], h3⟩
    · cases h
  · cases h

/-! what is kept -/
theorem flush_none {mask t : Nat} (hm : Nat.land (Nat.shiftRight mask t) 1 = 0) : ∀ {l : List (Nat × AV)} {tm : T AV}, tm.get t = none → (flush mask l tm).get t = none
  | [], _, h => h
  | (u, v) :: l, tm, h => by
    have ih := flush_none hm (l := l) h
    simp only [flush]
    by_cases e : t = u
    · subst e
      rw [hm]
      simp only [clr, ih]
    · split
      · unfold clr
        split
        · exact ih
        · rw [T.get_set_other _ _ e]; exact ih
      · rw [T.get_set_other _ _ e]; exact ih
/-- slots that are not cleared hold nothing -/
def Cl (mask np : Nat) (tm : T AV) : Prop := ∀ t, Nat.land (Nat.shiftRight mask t) 1 = 0 → clearQ np t = false → tm.get t = none
theorem tclr_eq (t : Nat) (tm : T AV) (k : T AV → Ans) : tclr t tm k = k (clr t tm) := by
  unfold tclr clr
  cases tm.get t with
  | none => rfl
  | some v => exact tset_ok none k t tm
theorem flOf_ok {mask np : Nat} (hC : Cl mask np tm) : ∀ {c : CEnv} {K : T AV → Ans}, LR D c s → (flOf mask np D c).ap s tm K = K (flush mask (locOf D c s) tm)
  | [], _, _ => rfl
  | p :: c, K, hL => by
    have hL' : LR D c s := ⟨hL.1, fun q hq => hL.2 q (by simp [hq])⟩
    have e : flOf mask np D (p :: c) = (match Nat.land (Nat.shiftRight mask p.1) 1 with
      | 0 => match clearQ np p.1 with
        | true => ⟨fun s tm k => (flOf mask np D c).ap s tm fun tm => tclr p.1 tm k⟩
        | false => flOf mask np D c
      | _ => match p.2 with
        | .lv n => match Nat.sub D (Nat.succ n) with
          | i => ⟨fun s tm k => (flOf mask np D c).ap s tm fun tm => (msel i).ap s fun a => (tset p.1).ap tm (some a) k⟩
        | .cst a => ⟨fun s tm k => (flOf mask np D c).ap s tm fun tm => (tset p.1).ap tm (some a) k⟩) := rfl
    rw [e]
    show Fl.ap _ s tm K = K (flush mask ((p.1, valLc D p.2 s) :: locOf D c s) tm)
    simp only [flush]
    cases hm : Nat.land (Nat.shiftRight mask p.1) 1 with
    | zero =>
      cases hq : clearQ np p.1 with
      | true =>
        show (flOf mask np D c).ap s tm (fun tm => tclr p.1 tm K) = _
        rw [flOf_ok hC hL', tclr_eq]
        rfl
      | false =>
        show (flOf mask np D c).ap s tm K = _
        rw [flOf_ok hC hL']
        have := flush_none hm (l := locOf D c s) (hC p.1 hm hq)
        simp only [clr, this]
    | succ m =>
      cases hp : p.2 with
      | lv n =>
        show (flOf mask np D c).ap s tm (fun tm => (msel (Nat.sub D (Nat.succ n))).ap s fun a => (tset p.1).ap tm (some a) K) = _
        rw [flOf_ok hC hL', msel_ok]
        have hlt := hL.2 p (by simp) n hp
        have hl : D - (n + 1) < s.length := by have := hL.1; omega
        have hnth : nth s (Nat.sub D (Nat.succ n)) = some (s[D - (n + 1)]) := by rw [nth_eq]; exact List.getElem?_eq_getElem hl
        simp only [hnth, tset_ok, valLc]
      | cst a =>
        show (flOf mask np D c).ap s tm (fun tm => (tset p.1).ap tm (some a) K) = _
        rw [flOf_ok hC hL', tset_ok]
        simp only [valLc]

theorem fops_ok (hX : RefK P kp recK rec) (hS : StdOk sd orc) (hr : r ≠ .bad) {all : List Oper} {mask np : Nat} (hC : Cl mask np tm) {marks : List Nat} {k : KE} : ∀ {l : List Oper} {D : Nat} {c : CEnv} {s : List AV} {H : Heap} {nx : Nat}, LR D c s →
    (fops P sd all mask np l D c).ap recK tm marks k s H nx = r → ∃ loc H' nx', opsA P rec orc all tm l (locOf D c s) H nx = some (loc, H', nx') ∧ k .normal (flush mask loc tm) H' nx' marks = r
  | [], D, c, s, H, nx, hL, h => by
    have h' : (flOf mask np D c).ap s tm (fun tm => k .normal tm H nx marks) = r := h
    rw [flOf_ok hC hL] at h'
    exact ⟨_, H, nx, rfl, h'⟩
  | o :: l, D, c, s, H, nx, hL, h => by
    have e : fops P sd all mask np (o :: l) D c = (match aliasOf c o with
      | some p => fops P sd all mask np l D (p :: c)
      | none => ⟨fun rec tm marks k s H nx => (fstep P sd all D c o).ap rec tm ((fops P sd all mask np l (Nat.succ D) (pushC D c o.dst)).ap rec tm marks k) s H nx⟩) := rfl
    rw [e] at h
    split at h
    · rename_i p hp
      obtain ⟨h1, h2, h3⟩ := aliasOf_ok (P := P) (rec := rec) (orc := orc) (tm := tm) (H := H) (nx := nx) (all := all) hL hp
      obtain ⟨loc, H', nx', h4, h5⟩ := fops_ok hX hS hr hC (hL.cons h3) h
      refine ⟨loc, H', nx', ?_, h5⟩
      show stepOp P rec orc all tm o (opsA P rec orc all tm l) (locOf D c s) H nx = _
      rw [stepOp_eq, h1]
      simp only [h2, putD]
      exact h4
    · have h' : (fstep P sd all D c o).ap recK tm ((fops P sd all mask np l (Nat.succ D) (pushC D c o.dst)).ap recK tm marks k) s H nx = r := h
      obtain ⟨v, H1, nx1, h1, h2⟩ := fstep_ok hX hS hL hr h'
      obtain ⟨loc, H', nx', h4, h5⟩ := fops_ok hX hS hr hC (hL.push o.dst v) h2
      rw [locOf_pushC hL] at h4
      refine ⟨loc, H', nx', ?_, h5⟩
      show stepOp P rec orc all tm o (opsA P rec orc all tm l) (locOf D c s) H nx = _
      rw [stepOp_eq, h1]
      exact h4

theorem Cl.of {rd : Option Nat} {fn : FuncId} (h : rd = none → InvK P kp fn tm) : Cl (kp fn) (npR P rd fn) tm := by
  intro t hm hq
  cases rd with
  | none =>
    refine h rfl t hm ?_
    have hq' : Nat.ble (Nat.succ t) (npOf P fn) = false := hq
    rw [Bool.eq_false_iff] at hq'
    by_cases c : npOf P fn ≤ t
    · exact c
    · exact absurd (Nat.ble_eq_true_of_le (by omega)) hq'
  | some l => cases hq
theorem InvK.flush {fn : FuncId} {loc : List (Nat × AV)} (h : InvK P kp fn tm) : InvK P kp fn (flush (kp fn) loc tm) :=
  fun t hm ht => flush_none hm (h t hm ht)

theorem regionK_ok (hX : RefK P kp recK rec) (hS : StdOk sd orc) (hr : r ≠ .bad) {rd : Option Nat} {fn : FuncId} {ops : List Oper} {marks : List Nat} {k : KE} (hI : rd = none → InvK P kp fn tm)
    (h : regionK P recK sd rd fn (kp fn) ops tm H nx marks k = r) :
    ∃ e st', regionA P rec orc fn (kp fn) ops ⟨tm, H, nx, marks⟩ = some (e, st') ∧ (rd = none → InvK P kp fn st'.tm) ∧ k e st'.tm st'.H st'.nx st'.marks = r := by
  obtain ⟨hd, h⟩ := kIf_ok h hr
  obtain ⟨loc, H', nx', h1, h2⟩ := fops_ok hX hS hr (Cl.of hI) (⟨rfl, fun _ h => by cases h⟩ : LR 0 [] []) h
  refine ⟨.normal, ⟨flush (kp fn) loc tm, H', nx', marks⟩, ?_, fun hn => (hI hn).flush, h2⟩
  have h1' : opsA P rec orc ops tm ops [] H nx = some (loc, H', nx') := h1
  simp only [regionA, hd, h1']

/-! regions that draw their order -/
theorem fpass_ok (hX : RefK P kp recK rec) (hS : StdOk sd orc) (hr : r ≠ .bad) {all : List Oper} {mask np : Nat} (hC : Cl mask np tm) : ∀ {l : List Oper} {D : Nat} {c : CEnv} {s : List AV} {H : Heap} {nx : Nat} {k : List Rcd → T AV → Heap → Nat → Ans}, LR D c s →
    (fpass P sd all mask np l D c).ap recK tm s H nx k = r → ∃ rs rl, pass1 P rec orc all tm l (locOf D c s) H nx = some (rs ++ [rl]) ∧ rs.length = l.length ∧ k (rs ++ [rl]) (flush mask rl.loc tm) rl.H rl.nx = r
  | [], D, c, s, H, nx, k, hL, h => by
    have h' : (flOf mask np D c).ap s tm (fun tm => k [⟨locOf D c s, H, nx, undef⟩] tm H nx) = r := h
    rw [flOf_ok hC hL] at h'
    exact ⟨[], _, rfl, rfl, h'⟩
  | o :: l, D, c, s, H, nx, k, hL, h => by
    have e : fpass P sd all mask np (o :: l) D c = (match aliasOf c o with
      | some p => ⟨fun rec tm s H nx k => (fpass P sd all mask np l D (p :: c)).ap rec tm s H nx fun rs => k (⟨locOf D c s, H, nx, valLc D p.2 s⟩ :: rs)⟩
      | none => ⟨fun rec tm s H nx k => (fstep P sd all D c o).ap rec tm (fun s' H' nx' => (fpass P sd all mask np l (Nat.succ D) (pushC D c o.dst)).ap rec tm s' H' nx' fun rs => k (⟨locOf D c s, H, nx, valLc 1 (.lv 0) s'⟩ :: rs)) s H nx⟩) := rfl
    rw [e] at h
    split at h
    · rename_i p hp
      obtain ⟨h1, h2, h3⟩ := aliasOf_ok (P := P) (rec := rec) (orc := orc) (tm := tm) (H := H) (nx := nx) (all := all) hL hp
      have h' : (fpass P sd all mask np l D (p :: c)).ap recK tm s H nx (fun rs => k (⟨locOf D c s, H, nx, valLc D p.2 s⟩ :: rs)) = r := h
      obtain ⟨rs, rl, h4, h5, h6⟩ := fpass_ok hX hS hr hC (hL.cons h3) h'
      refine ⟨⟨locOf D c s, H, nx, valLc D p.2 s⟩ :: rs, rl, ?_, by simp [h5], h6⟩
      have h4' : pass1 P rec orc all tm l ((p.1, valLc D p.2 s) :: locOf D c s) H nx = some (rs ++ [rl]) := h4
      simp only [pass1, h1, h2, putD, h4', List.cons_append]
    · have h' : (fstep P sd all D c o).ap recK tm (fun s' H' nx' => (fpass P sd all mask np l (Nat.succ D) (pushC D c o.dst)).ap recK tm s' H' nx' fun rs => k (⟨locOf D c s, H, nx, valLc 1 (.lv 0) s'⟩ :: rs)) s H nx = r := h
      obtain ⟨v, H1, nx1, h1, h2⟩ := fstep_ok hX hS hL hr h'
      obtain ⟨rs, rl, h4, h5, h6⟩ := fpass_ok hX hS hr hC (hL.push o.dst v) h2
      rw [locOf_pushC hL] at h4
      refine ⟨⟨locOf D c s, H, nx, v⟩ :: rs, rl, ?_, by simp [h5], h6⟩
      simp only [pass1, h1, h4, List.cons_append]

theorem blind_ok {E : Env} {o : Op} (hb : blind o = true) {v : AV} {H1 : Heap} {nx1 : Nat} (h : stepVal P rec orc (aop P E H nx o) = some (v, H1, nx1)) : ∀ H' nx', aop P E H' nx' o = some (.val v H' nx') := by
  intro H' nx'
  cases o with
  | move x =>
    simp only [aop, cop, opMove] at h ⊢
    cases hv : ev E x with
    | none => rw [hv] at h; cases h
    | some a => rw [hv] at h; cases h; rfl
  | assign x =>
    simp only [aop, cop, opMove] at h ⊢
    cases hv : ev E x with
    | none => rw [hv] at h; cases h
    | some a => rw [hv] at h; cases h; rfl
  | pick q a b =>
    simp only [aop, cop, opPick, opMove] at h ⊢
    split at h
    · cases hv : ev E a with
      | none => rw [hv] at h; cases h
      | some x => rw [hv] at h; cases h; rfl
    · cases hv : ev E b with
      | none => rw [hv] at h; cases h
      | some x => rw [hv] at h; cases h; rfl
    · cases h
  | nilCheck x =>
    simp only [aop, cop, opNil] at h ⊢
    split at h <;> first | (cases h; rfl) | cases h
  | fieldAddr t x f =>
    simp only [aop, cop, cFieldAddr] at h ⊢
    split at h
    · split at h
      · rename_i fs hfs p off n hp
        simp only [faddr] at h ⊢
        split at h <;> first | (cases h; rfl) | cases h
      · cases h
    · cases h
  | extract t i =>
    simp only [aop, cop, opExtract] at h ⊢
    split at h
    · rename_i vs hvs
      cases hv : nth vs i with
      | none => rw [hv] at h; cases h
      | some x => rw [hv] at h; cases h; rfl
    · cases h
  | indexAddr t x i =>
    simp only [aop, cop, opIndexAddr] at h ⊢
    cases hx : ev E x with
    | none => rw [hx] at h; cases h
    | some a =>
      rw [hx] at h
      simp only at h ⊢
      cases hi : ev E i with
      | none => rw [hi] at h; cases h
      | some b =>
        rw [hi] at h
        simp only [idxOp] at h ⊢
        split at h
        · split at h
          · split at h <;> first | (cases h; rfl) | cases h
          · split at h <;> first | (cases h; rfl) | cases h
          · cases h
        · cases h
  | _ => cases hb
end
end Go.SK

/- The faster evaluator, sixth part: what it answers the first evaluator answers too. -/
namespace Go.SK
open Go

section
variable {P : Program} {kp : FuncId → Nat} {recK : RecK} {rec : Rec} {sd : Std} {orc : Orc} {tm : T AV} {H : Heap} {nx : Nat} {r : Ans}

/-- what is known of a pass's records -/
theorem pass1_get {all : List Oper} : ∀ {l : List Oper} {loc : List (Nat × AV)} {H : Heap} {nx : Nat} {rs : List Rcd}, pass1 P rec orc all tm l loc H nx = some rs → rs.length = l.length + 1 ∧
    ∀ (i : Nat) (o : Oper), l[i]? = some o → ∃ (q : Rcd) (H' : Heap) (nx' : Nat), rs[i]? = some q ∧ step1 P rec orc all tm o q.loc q.H q.nx = some (q.v, H', nx')
  | [], loc, H, nx, rs, h => by cases h; exact ⟨rfl, fun i o h => by simp at h⟩
  | o :: l, loc, H, nx, rs, h => by
    simp only [pass1] at h
    split at h
    · rename_i v H1 nx1 h1
      split at h
      · rename_i rs1 h2
        cases h
        obtain ⟨h3, h4⟩ := pass1_get h2
        refine ⟨by simp [h3], fun i o' hi => ?_⟩
        cases i with
        | zero => simp at hi; subst hi; exact ⟨_, H1, nx1, rfl, h1⟩
        | succ i => simpa using h4 i o' (by simpa using hi)
      · cases h
    · cases h

theorem again_cons {all : List Oper} {rs : List Rcd} {q : Nat × Nat} {pl : List (Nat × Nat)} (h1 : again P all tm rs [q] = true) (h2 : again P all tm rs pl = true) : again P all tm rs (q :: pl) = true := by
  obtain ⟨i, c⟩ := q
  simp only [again] at h1 ⊢
  split at h1
  · rename_i ri rc o e1 e2 e3
    simp only [Bool.and_true] at h1
    rw [h1, h2]; rfl
  · cases h1

theorem againK_ok {all : List Oper} {loc : List (Nat × AV)} {rs : List Rcd} (hp : pass1 P rec orc all tm all loc H nx = some rs) (hr : r ≠ .bad) : ∀ {pl : List (Nat × Nat)} {last : Nat} {k : Ans},
    (∀ i, last = Nat.succ i → ∃ q, nth rs i = some q ∧ avEq q.v q.v = true) → againK P all tm rs pl last k = r → again P all tm rs pl = true ∧ k = r
  | [], last, k, _, h => ⟨rfl, h⟩
  | q :: pl, last, k, hlast, h => by
    have h' : (match nth all q.1 with
      | some o => match blind o.op && Nat.ble q.2 (len all) with
        | true => match Nat.beq last (Nat.succ q.1) with
          | true => againK P all tm rs pl last k
          | false => kIf (match nth rs q.1 with | some r => avEq r.v r.v | none => false) (againK P all tm rs pl (Nat.succ q.1) k) .bad
        | false => kIf (again P all tm rs [q]) (againK P all tm rs pl last k) .bad
      | none => .bad) = r := h
    split at h'
    · rename_i o ho
      have blindly : blind o.op = true → Nat.ble q.2 (len all) = true → (∃ x, nth rs q.1 = some x ∧ avEq x.v x.v = true) → again P all tm rs [q] = true := by
        rintro hb hc ⟨x, hx, hv⟩
        obtain ⟨g1, g2⟩ := pass1_get hp
        rw [nth_eq] at ho hx
        obtain ⟨y, H', nx', hy, hs⟩ := g2 q.1 o ho
        rw [hx] at hy; cases hy
        have hlt : q.2 < rs.length := by have := Nat.le_of_ble_eq_true hc; rw [len_eq] at this; omega
        obtain ⟨i, c⟩ := q
        have hcut : nth rs c = some rs[c] := by rw [nth_eq]; exact List.getElem?_eq_getElem hlt
        simp only [again]
        rw [show nth rs i = some x by rw [nth_eq]; exact hx, hcut, show nth all i = some o by rw [nth_eq]; exact ho]
        simp only [Bool.and_true]
        unfold step1 at hs
        cases hw : wantedA ⟨x.loc, tm⟩ all o.guard with
        | none => rw [hw] at hs; cases hs
        | some b => cases b with
          | false => rfl
          | true =>
            rw [hw] at hs
            simp only at hs
            rw [blind_ok hb hs]
            exact hv
      split at h'
      · rename_i hb
        rw [Bool.and_eq_true] at hb
        split at h'
        · rename_i hl
          obtain ⟨h1, h2⟩ := againK_ok hp hr hlast h'
          exact ⟨again_cons (blindly hb.1 hb.2 (hlast q.1 (Nat.eq_of_beq_eq_true hl))) h1, h2⟩
        · obtain ⟨hv, h'⟩ := kIf_ok h' hr
          have hx : ∃ x, nth rs q.1 = some x ∧ avEq x.v x.v = true := by
            split at hv
            · rename_i x hx; exact ⟨x, hx, hv⟩
            · cases hv
          obtain ⟨h1, h2⟩ := againK_ok hp hr (fun i hi => by cases hi; exact hx) h'
          exact ⟨again_cons (blindly hb.1 hb.2 hx) h1, h2⟩
      · obtain ⟨hv, h'⟩ := kIf_ok h' hr
        obtain ⟨h1, h2⟩ := againK_ok hp hr hlast h'
        exact ⟨again_cons hv h1, h2⟩
    · exact bad_absurd h' hr

theorem drawK_ok (hX : RefK P kp recK rec) (hS : StdOk sd orc) (hr : r ≠ .bad) {rd : Option Nat} {fn : FuncId} {pl : List (Nat × Nat)} {ops : List Oper} {marks : List Nat} {k : KE} (hI : rd = none → InvK P kp fn tm)
    (h : drawK P recK sd rd fn (kp fn) pl ops tm H nx marks k = r) :
    ∃ e st', drawA P rec orc fn (kp fn) pl ops ⟨tm, H, nx, marks⟩ = some (e, st') ∧ (rd = none → InvK P kp fn st'.tm) ∧ k e st'.tm st'.H st'.nx st'.marks = r := by
  obtain ⟨hd, h⟩ := kIf_ok h hr
  obtain ⟨rs, rl, h1, h2, h3⟩ := fpass_ok hX hS hr (Cl.of hI) (⟨rfl, fun _ h => by cases h⟩ : LR 0 [] []) h
  have h1' : pass1 P rec orc ops tm ops [] H nx = some (rs ++ [rl]) := h1
  obtain ⟨h4, h5⟩ := againK_ok h1' hr (fun i h => by cases h) h3
  refine ⟨.normal, ⟨flush (kp fn) rl.loc tm, rl.H, rl.nx, marks⟩, ?_, fun hn => (hI hn).flush, h5⟩
  have hn : nth (rs ++ [rl]) (len ops) = some rl := by
    rw [nth_eq, len_eq, ← h2]; simp
  simp only [drawA, hd, h1', h4, hn]

theorem condK_ok (hX : RefK P kp recK rec) (hr : r ≠ .bad) {rd : Option Nat} {fn : FuncId} {x : Operand} {a b : Code} {marks : List Nat} {k : KE} (hI : rd = none → InvK P kp fn tm)
    (h : condK recK rd fn x a b tm H nx marks k = r) :
    ∃ e st', condA rec rd fn x a b ⟨tm, H, nx, marks⟩ = some (e, st') ∧ (rd = none → InvK P kp fn st'.tm) ∧ k e st'.tm st'.H st'.nx st'.marks = r := by
  obtain ⟨v, hv, h⟩ := gOp_ok (⟨rfl, fun _ h => by cases h⟩ : LR 0 [] []) h hr
  have hv' : ev ⟨[], tm⟩ x = some v := hv
  obtain ⟨z, e, h⟩ := kBool_ok h hr
  subst e
  cases z with
  | true =>
    obtain ⟨e, st', h1, h2, h3⟩ := hX rd fn a tm H nx marks k r hr hI h
    exact ⟨e, st', by simp only [condA, hv', h1], h2, h3⟩
  | false =>
    obtain ⟨e, st', h1, h2, h3⟩ := hX rd fn b tm H nx marks k r hr hI h
    exact ⟨e, st', by simp only [condA, hv', h1], h2, h3⟩

theorem seqK_ok (hX : RefK P kp recK rec) (hr : r ≠ .bad) {rd : Option Nat} {fn : FuncId} {a b : Code} {marks : List Nat} {k : KE} (hI : rd = none → InvK P kp fn tm)
    (h : seqK recK rd fn a b tm H nx marks k = r) :
    ∃ e st', seqA rec rd fn a b ⟨tm, H, nx, marks⟩ = some (e, st') ∧ (rd = none → InvK P kp fn st'.tm) ∧ k e st'.tm st'.H st'.nx st'.marks = r := by
  obtain ⟨e, st', h1, h2, h3⟩ := hX rd fn a tm H nx marks _ r hr hI h
  obtain ⟨tm1, H1, nx1, m1⟩ := st'
  cases e with
  | normal =>
    obtain ⟨e2, st2, h4, h5, h6⟩ := hX rd fn b tm1 H1 nx1 m1 k r hr h2 h3
    exact ⟨e2, st2, by simp only [seqA, h1, h4], h5, h6⟩
  | exit i => exact ⟨_, _, by simp only [seqA, h1], h2, h3⟩
  | goto l => exact ⟨_, _, by simp only [seqA, h1], h2, h3⟩
  | ret => exact ⟨_, _, by simp only [seqA, h1], h2, h3⟩
theorem loop_seq {rd : Option Nat} {fn : FuncId} {a b : Code} {st : St} : loopA rec rd fn a b st = seqA rec rd fn a b st := rfl
theorem blockK_ok (hX : RefK P kp recK rec) (hr : r ≠ .bad) {rd : Option Nat} {fn : FuncId} {id : Nat} {a : Code} {marks : List Nat} {k : KE} (hI : rd = none → InvK P kp fn tm)
    (h : blockK recK rd fn id a tm H nx marks k = r) :
    ∃ e st', blockA rec rd fn id a ⟨tm, H, nx, marks⟩ = some (e, st') ∧ (rd = none → InvK P kp fn st'.tm) ∧ k e st'.tm st'.H st'.nx st'.marks = r := by
  obtain ⟨e, st', h1, h2, h3⟩ := hX rd fn a tm H nx marks _ r hr hI h
  obtain ⟨tm1, H1, nx1, m1⟩ := st'
  cases e with
  | normal => exact ⟨_, _, by simp only [blockA, h1], h2, h3⟩
  | exit i =>
    have h3' : kIf (Nat.beq i id) (k .normal tm1 H1 nx1 m1) (k (.exit i) tm1 H1 nx1 m1) = r := h3
    cases hb : Nat.beq i id with
    | true => rw [hb] at h3'; exact ⟨.normal, ⟨tm1, H1, nx1, m1⟩, by simp only [blockA, h1, hb], h2, h3'⟩
    | false => rw [hb] at h3'; exact ⟨.exit i, ⟨tm1, H1, nx1, m1⟩, by simp only [blockA, h1, hb], h2, h3'⟩
  | goto l => exact ⟨_, _, by simp only [blockA, h1], h2, h3⟩
  | ret => exact ⟨_, _, by simp only [blockA, h1], h2, h3⟩
theorem scopeK_ok (hX : RefK P kp recK rec) (hr : r ≠ .bad) {rd : Option Nat} {fn : FuncId} {body : Code} : ∀ {n : Nat} {a : Code} {tm : T AV} {H : Heap} {nx : Nat} {marks : List Nat} {k : KE}, (rd = none → InvK P kp fn tm) →
    scopeK recK rd fn body n a tm H nx marks k = r →
    ∃ e st', scopeA rec rd fn n body a ⟨tm, H, nx, marks⟩ = some (e, st') ∧ (rd = none → InvK P kp fn st'.tm) ∧ k e st'.tm st'.H st'.nx st'.marks = r
  | 0, _, _, _, _, _, _, _, h => bad_absurd h hr
  | n + 1, a, tm, H, nx, marks, k, hI, h => by
    obtain ⟨e, st', h1, h2, h3⟩ := hX rd fn a tm H nx marks _ r hr hI h
    obtain ⟨tm1, H1, nx1, m1⟩ := st'
    cases e with
    | normal => exact ⟨_, _, by simp only [scopeA, h1], h2, h3⟩
    | exit i => exact ⟨_, _, by simp only [scopeA, h1], h2, h3⟩
    | ret => exact ⟨_, _, by simp only [scopeA, h1], h2, h3⟩
    | goto l =>
      have h3' : Option.rec (motive := fun _ => Ans) (k (.goto l) tm1 H1 nx1 m1) (fun rest => scopeK recK rd fn body n rest tm1 H1 nx1 m1 k) (findLabel body l) = r := h3
      cases hf : findLabel body l with
      | none => rw [hf] at h3'; exact ⟨.goto l, ⟨tm1, H1, nx1, m1⟩, by simp only [scopeA, h1, hf], h2, h3'⟩
      | some rest =>
        rw [hf] at h3'
        obtain ⟨e2, st2, h4, h5, h6⟩ := scopeK_ok hX hr h2 h3'
        exact ⟨e2, st2, by simp only [scopeA, h1, hf, h4], h5, h6⟩

theorem rangeK_ok (hX : RefK P kp recK rec) (hr : r ≠ .bad) {rd : Option Nat} {fn : FuncId} {g : Operand} {params : List Tmp} {assign body : Code} {marks : List Nat} {k : KE} (hI : rd = none → InvK P kp fn tm)
    (h : rangeK P recK rd fn g params assign body tm H nx marks k = r) :
    ∃ e st', rangeA P rec rd fn g params assign body ⟨tm, H, nx, marks⟩ = some (e, st') ∧ (rd = none → InvK P kp fn st'.tm) ∧ k e st'.tm st'.H st'.nx st'.marks = r := by
  unfold rangeK at h
  split at h
  · exact bad_absurd h hr
  · rename_i d H1 nx1 m1 he
    split at h
    · rename_i f first captured hv
      obtain ⟨v, H2, nx2, h1, h2⟩ := callK_ok hX noStd_ok hr h
      split at h2
      · rename_i st pd fn' tm' ps' as' bd' d' hg
        split at h2
        · exact bad_absurd h2 hr
        · rename_i hb
          split at h2
          · refine ⟨.normal, ⟨tm, H2.set nx1 (some (.loop .exhausted none fn' tm' ps' as' bd' d')), nx2, m1⟩, ?_, hI, h2⟩
            unfold rangeA
            simp only [he, hv, h1, hg]
            all_goals (cases st <;> first | rfl | exact absurd rfl hb)
          · rename_i j
            obtain ⟨e3, st3, h5, h6, h7⟩ := hX rd fn j tm _ _ _ k r hr hI h2
            refine ⟨e3, st3, ?_, h6, h7⟩
            unfold rangeA
            simp only [he, hv, h1, hg]
            cases st <;> first | exact h5 | exact absurd rfl hb
      · exact bad_absurd h2 hr
    · exact bad_absurd h hr

theorem bodyK_ok (hX : RefK P kp recK rec) (hS : StdOk sd orc) : RefK P kp (bodyK P recK sd kp) (fun rd fn c st => bodyA P rec orc kp rd fn c st) := by
  intro rd fn c tm H nx marks k r hr hI h
  unfold bodyK fcode at h
  show ∃ e st', (ccode P orc kp c).f rec rd fn ⟨tm, H, nx, marks⟩ = some (e, st') ∧ _
  unfold ccode
  cases c with
  | skip => exact ⟨_, _, rfl, hI, h⟩
  | label l => exact ⟨_, _, rfl, hI, h⟩
  | exit i => exact ⟨_, _, rfl, hI, h⟩
  | goto l => exact ⟨_, _, rfl, hI, h⟩
  | ret => exact ⟨_, _, rfl, hI, h⟩
  | refuse w => exact bad_absurd h hr
  | region id ops dr =>
    cases dr with
    | false => exact regionK_ok hX hS hr hI h
    | true =>
      simp only at h ⊢
      cases hp : plan P ops.toList with
      | none => rw [hp] at h; exact bad_absurd h hr
      | some pl => rw [hp] at h; exact drawK_ok hX hS hr hI h
  | seq a b => exact seqK_ok hX hr hI h
  | cond x a b => exact condK_ok hX hr hI h
  | block id a => exact blockK_ok hX hr hI h
  | loop a => exact seqK_ok hX hr hI h
  | scope body => exact scopeK_ok hX hr hI h
  | rangeFunc g ps a b => exact rangeK_ok hX hr hI h

theorem execK_ok (hS : StdOk sd orc) : ∀ n, RefK P kp (execK P sd kp n) (exec P orc kp n)
  | 0 => fun _ _ _ _ _ _ _ _ _ hr _ h => bad_absurd h hr
  | n + 1 => bodyK_ok (execK_ok hS n) hS

/-- WHAT THE FASTER EVALUATOR ANSWERS THE FIRST ONE ANSWERS TOO -/
theorem runK_ok (hS : StdOk sd orc) {n : Nat} {f : FuncId} {args : List AV} {k : KV} (hr : r ≠ .bad) (h : runK P sd kp n f args H nx k = r) :
    ∃ v H' nx', call P orc kp n f args H nx = some (v, H', nx') ∧ k v H' nx' = r :=
  callK_ok (execK_ok hS n) noStd_ok hr h
end
end Go.SK

/- The faster evaluator, seventh part: calls that are looked at alone. -/
namespace Go.SK
open Go

theorem kNats_eq : ∀ (l : List Nat) (k : List Nat → Ans), kNats l k = k l
  | [], _ => rfl
  | n :: l, k => by
    show fnatR n (fun n => kNats l fun r => k (n :: r)) = _
    rw [fnatR_eq, kNats_eq l]
theorem kForce1_dich (a : AV) : (pure1 a = true ∧ ∀ k u, kForce1 a k u = k a) ∨ ∀ k u, kForce1 a k u = u := by
  cases a with
  | bool b => exact .inl ⟨rfl, fun k u => by cases b <;> rfl⟩
  | int i n => exact .inl ⟨rfl, fun k u => by cases n with | ofNat m => exact fnatR_eq m (fun m => k (.int i (.ofNat m))) | negSucc m => exact fnatR_eq m (fun m => k (.int i (.negSucc m)))⟩
  | str s => exact .inl ⟨rfl, fun k u => kNats_eq s _⟩
  | nilp => exact .inl ⟨rfl, fun k u => rfl⟩
  | nils => exact .inl ⟨rfl, fun k u => rfl⟩
  | nilf => exact .inl ⟨rfl, fun k u => rfl⟩
  | nili => exact .inl ⟨rfl, fun k u => rfl⟩
  | _ => exact .inr fun k u => rfl
theorem kForces_dich : ∀ (l : List AV), (pures l = true ∧ ∀ u k, kForces l u k = k l) ∨ ∀ u k, kForces l u k = u
  | [] => .inl ⟨rfl, fun _ _ => rfl⟩
  | a :: l => by
    have e : ∀ u k, kForces (a :: l) u k = kForce1 a (fun a => kForces l u fun r => k (a :: r)) u := fun _ _ => rfl
    rcases kForce1_dich a with ⟨h1, h2⟩ | h2
    · rcases kForces_dich l with ⟨h3, h4⟩ | h4
      · exact .inl ⟨by simp only [pures, h1, h3, Bool.and_self], fun u k => by rw [e, h2, h4]⟩
      · exact .inr fun u k => by rw [e, h2, h4]
    · exact .inr fun u k => by rw [e, h2]
theorem kArg_dich (a : AV) : (pureR a = true ∧ (∀ b o n c, a ≠ .slc b o n c) ∧ ∀ k kr u, kArg a k kr u = k a) ∨ (∃ b o n c, a = .slc b o n c ∧ ∀ k kr u, kArg a k kr u = kr b o n c) ∨ ∀ k kr u, kArg a k kr u = u := by
  have f1 : ∀ x : AV, (∀ k kr u, kArg x k kr u = kForce1 x k u) → (∀ b o n c, x ≠ .slc b o n c) → pureR x = pure1 x → (pureR x = true ∧ (∀ b o n c, x ≠ .slc b o n c) ∧ ∀ k kr u, kArg x k kr u = k x) ∨ (∃ b o n c, x = .slc b o n c ∧ ∀ k kr u, kArg x k kr u = kr b o n c) ∨ ∀ k kr u, kArg x k kr u = u := by
    intro x h1 h2 h3
    rcases kForce1_dich x with ⟨h4, h5⟩ | h5
    · exact .inl ⟨by rw [h3, h4], h2, fun k kr u => by rw [h1, h5]⟩
    · exact .inr (.inr fun k kr u => by rw [h1, h5])
  cases a with
  | bool b => exact f1 _ (fun _ _ _ => rfl) (fun _ _ _ _ h => by cases h) rfl
  | int i n => exact f1 _ (fun _ _ _ => rfl) (fun _ _ _ _ h => by cases h) rfl
  | str s => exact f1 _ (fun _ _ _ => rfl) (fun _ _ _ _ h => by cases h) rfl
  | nilp => exact .inl ⟨rfl, (fun _ _ _ _ h => by cases h), fun _ _ _ => rfl⟩
  | nils => exact .inl ⟨rfl, (fun _ _ _ _ h => by cases h), fun _ _ _ => rfl⟩
  | nilf => exact .inl ⟨rfl, (fun _ _ _ _ h => by cases h), fun _ _ _ => rfl⟩
  | nili => exact .inl ⟨rfl, (fun _ _ _ _ h => by cases h), fun _ _ _ => rfl⟩
  | slc b o n c => exact .inr (.inl ⟨b, o, n, c, rfl, fun _ _ _ => rfl⟩)
  | agg cs =>
    rcases kForces_dich cs with ⟨h1, h2⟩ | h2
    · exact .inl ⟨h1, (fun _ _ _ _ h => by cases h), fun k kr u => h2 u _⟩
    · exact .inr (.inr fun k kr u => h2 u _)
  | _ => exact .inr (.inr fun _ _ _ => rfl)
theorem kCap_eq (c : Option Nat) (k : Option Nat → Ans) : kCap c k = k c := by
  cases c with
  | none => rfl
  | some c => exact fnatR_eq c (fun c => k (some c))

/-- what the arguments are -/
def ArgsR (l as : List AV) : RowI → Prop
  | .no => as = l ∧ arg1 l = some .none
  | .row b o n => ∃ p q c, arg1 l = some (.row p b o n c q) ∧ as = p ++ .slc 0 0 n c :: q
theorem kArgs_dich : ∀ (l : List AV), (∃ as w, ArgsR l as w ∧ ∀ u k, kArgs l u k = k as w) ∨ ∀ u k, kArgs l u k = u
  | [] => .inl ⟨[], .no, ⟨rfl, rfl⟩, fun _ _ => rfl⟩
  | a :: l => by
    have e : ∀ u k, kArgs (a :: l) u k = kArg a (fun a => kArgs l u fun r w => k (a :: r) w) (fun b o n c => fnatR n fun n => kCap c fun c => kArgs l u fun r w => kRow w (k (.slc 0 0 n c :: r) (.row b o n)) fun _ _ _ => u) u := fun _ _ => rfl
    rcases kArg_dich a with ⟨h1, h2, h3⟩ | ⟨b, o, n, c, rfl, h3⟩ | h3
    · rcases kArgs_dich l with ⟨as, w, h4, h5⟩ | h5
      · refine .inl ⟨a :: as, w, ?_, fun u k => by rw [e, h3, h5]⟩
        have hcons : arg1 (a :: l) = match pureR a, arg1 l with
          | true, some .none => some .none
          | true, some (.row p b o n c q) => some (.row (a :: p) b o n c q)
          | _, _ => none := by
          cases a <;> first | rfl | exact absurd rfl (h2 _ _ _ _)
        cases w with
        | no => obtain ⟨rfl, h6⟩ := h4; exact ⟨rfl, by rw [hcons, h1, h6]⟩
        | row b o n =>
          obtain ⟨p, q, c, h6, rfl⟩ := h4
          exact ⟨a :: p, q, c, by rw [hcons, h1, h6], rfl⟩
      · exact .inr fun u k => by rw [e, h3, h5]
    · rcases kArgs_dich l with ⟨as, w, h4, h5⟩ | h5
      · cases w with
        | no =>
          obtain ⟨rfl, h6⟩ := h4
          refine .inl ⟨.slc 0 0 n c :: as, .row b o n, ⟨[], as, c, ?_, rfl⟩, fun u k => by rw [e, h3, fnatR_eq, kCap_eq, h5]; rfl⟩
          simp only [arg1, arg1_none h6]
        | row b' o' n' => exact .inr fun u k => by rw [e, h3, fnatR_eq, kCap_eq, h5]; rfl
      · exact .inr fun u k => by rw [e, h3, fnatR_eq, kCap_eq, h5]
    · exact .inr fun u k => by rw [e, h3]
theorem kTakeF_dich : ∀ (n : Nat) (l : List AV), (∃ r, takeN n l = some r ∧ pures r = true ∧ ∀ u k, kTakeF n u l k = k r) ∨ ∀ u k, kTakeF n u l k = u
  | 0, l => .inl ⟨[], by cases l <;> rfl, rfl, fun _ _ => rfl⟩
  | _ + 1, [] => .inr fun _ _ => rfl
  | n + 1, a :: l => by
    have e : ∀ u k, kTakeF (n + 1) u (a :: l) k = kForce1 a (fun a => kTakeF n u l fun r => k (a :: r)) u := fun _ _ => rfl
    rcases kForce1_dich a with ⟨h1, h2⟩ | h2
    · rcases kTakeF_dich n l with ⟨r, h3, h4, h5⟩ | h5
      · exact .inl ⟨a :: r, by simp only [takeN, h3], by simp only [pures, h1, h4, Bool.and_self], fun u k => by rw [e, h2, h5]⟩
      · exact .inr fun u k => by rw [e, h2, h5]
    · exact .inr fun u k => by rw [e, h2]

section
variable {P : Program} {cA : FuncId → List AV → Heap → Nat → Option (AV × Heap × Nat)} {fs : List Nat}

theorem locC_ok (f : FuncId) (args : List AV) (H : Heap) (nx : Nat) : (∃ v H' nx', localA P cA fs f args H nx = some (v, H', nx') ∧ ∀ k u, (locC P cA fs f).ap args H nx k u = k v H' nx') ∨
    (∀ k u, (locC P cA fs f).ap args H nx k u = u) ∨ ∀ k u, (locC P cA fs f).ap args H nx k u = .bad := by
  cases hf : memT f fs with
  | false => exact .inr (.inl fun k u => by unfold locC; rw [hf]; rfl)
  | true =>
    have e : ∀ k u, (locC P cA fs f).ap args H nx k u = kArgs args u fun as w => kRow w
      (Option.rec (motive := fun _ => Ans) u (fun p => Prod.rec (motive := fun _ => Ans) (fun v q => Prod.rec (motive := fun _ => Ans) (fun H1 _ => kAns (importA H nx H1 v) k u) q) p) (cA f as .e 0))
      (fun b o n => kCells H b fun cs e _ => kDrop o cs fun r => kTakeF n u r fun r => kIf (match sizeT P e with | some 1 => true | _ => false)
        (Option.rec (motive := fun _ => Ans) u (fun p => Prod.rec (motive := fun _ => Ans) (fun v q => Prod.rec (motive := fun _ => Ans) (fun H1 _ => kAns (importA H nx H1 v) k u) q) p) (cA f as (.n .e (some (.cells r e .ro)) .e) 1)) u) := by
      intro k u; unfold locC; rw [hf]; rfl
    simp only [e]
    rcases kArgs_dich args with ⟨as, w, h1, h2⟩ | h2
    · simp only [h2]
      cases w with
      | no =>
        obtain ⟨rfl, h3⟩ := h1
        cases hc : cA f as .e 0 with
        | none => exact .inr (.inl fun k u => rfl)
        | some p =>
          obtain ⟨v, H1, n1⟩ := p
          cases hi : importA H nx H1 v with
          | none => exact .inr (.inl fun k u => by simp only [kRow, hi, kAns])
          | some p =>
            obtain ⟨v', H', nx'⟩ := p
            refine .inl ⟨v', H', nx', ?_, fun k u => by simp only [kRow, hi, kAns]⟩
            simp only [localA, hf, h3, forceAs_eq, hc, hi]
      | row b o n =>
        obtain ⟨p, q, c, h3, rfl⟩ := h1
        simp only [kRow, kCells, hget_ok]
        cases hg : H.get b with
        | none => exact .inr (.inr fun k u => rfl)
        | some ob =>
          cases ob with
          | cells cs e' ck =>
            simp only [kDrop_eq]
            cases hd : dropN o cs with
            | none => exact .inr (.inr fun k u => rfl)
            | some r0 =>
              simp only
              rcases kTakeF_dich n r0 with ⟨r, h4, h5, h6⟩ | h6
              · simp only [h6, kIf_eq]
                have hpart : part cs o n = some r := by simp only [part, hd, h4]
                by_cases hs : sizeT P e' = some 1
                · simp only [hs, if_true]
                  cases hc : cA f (p ++ .slc 0 0 n c :: q) (.n .e (some (.cells r e' .ro)) .e) 1 with
                  | none => exact .inr (.inl fun k u => rfl)
                  | some z =>
                    obtain ⟨v, H1, n1⟩ := z
                    cases hi : importA H nx H1 v with
                    | none => exact .inr (.inl fun k u => by simp only [hi, kAns])
                    | some z =>
                      obtain ⟨v', H', nx'⟩ := z
                      refine .inl ⟨v', H', nx', ?_, fun k u => by simp only [hi, kAns]⟩
                      simp only [localA, hf, h3, hg, hs, hpart, h5, forceAs_eq, force1s_eq, fnat_eq, foptn_eq, hc, hi]
                · refine .inr (.inl fun k u => ?_)
                  split
                  · rename_i h7; exact absurd h7 hs
                  · rfl
              · exact .inr (.inl fun k u => by simp only [h6])
          | _ => exact .inr (.inr fun k u => rfl)
    · exact .inr (.inl fun k u => by simp only [h2])

/-- the stand-in's answers as an oracle -/
noncomputable def localF (P : Program) (cA : FuncId → List AV → Heap → Nat → Option (AV × Heap × Nat)) (fs : List Nat) : Orc := fun f args H nx => ansV ((locC P cA fs f).ap args H nx (fun v H nx => .res v H nx) .bad)
theorem localF_local {f : FuncId} {args : List AV} {H : Heap} {nx : Nat} {x : AV × Heap × Nat} (h : localF P cA fs f args H nx = some x) : localA P cA fs f args H nx = some x := by
  unfold localF at h
  rcases locC_ok (P := P) (cA := cA) (fs := fs) f args H nx with ⟨v, H', nx', h1, h2⟩ | h2 | h2
  · rw [h2] at h
    have h' : some (v, H', nx') = some x := h
    rw [h1, h']
  · rw [h2] at h; cases h
  · rw [h2] at h; cases h
theorem locStd_ok (orc : Orc) : StdOk ⟨orc, locC P cA fs⟩ (orElse (localF P cA fs) orc) := by
  intro f args H nx
  show (∃ v H' nx', orElse (localF P cA fs) orc f args H nx = some (v, H', nx') ∧ ∀ k u, (locC P cA fs f).ap args H nx k (kAns (orc f args H nx) k u) = k v H' nx') ∨ _ ∨ _
  rcases locC_ok (P := P) (cA := cA) (fs := fs) f args H nx with ⟨v, H', nx', h1, h2⟩ | h2 | h2
  · refine .inl ⟨v, H', nx', ?_, fun k u => h2 k _⟩
    simp only [orElse, localF, h2, ansV]
  · have hn : localF P cA fs f args H nx = none := by simp only [localF, h2, ansV]
    cases ho : orc f args H nx with
    | none => exact .inr (.inl ⟨by simp only [orElse, hn, ho], fun k u => by
        show (locC P cA fs f).ap args H nx k (kAns (orc f args H nx) k u) = u
        rw [h2, ho]; rfl⟩)
    | some x =>
      obtain ⟨v, H', nx'⟩ := x
      exact .inl ⟨v, H', nx', by simp only [orElse, hn, ho], fun k u => by rw [h2]; rfl⟩
  · exact .inr (.inr fun k u => h2 k _)
theorem orcStd_ok (orc : Orc) : StdOk ⟨orc, noLoc⟩ orc := by
  intro f args H nx
  show (∃ v H' nx', orc f args H nx = some (v, H', nx') ∧ ∀ k u, kAns (orc f args H nx) k u = k v H' nx') ∨ (_ ∧ ∀ k u, kAns (orc f args H nx) k u = u) ∨ _
  cases ho : orc f args H nx with
  | none => exact .inr (.inl ⟨rfl, fun k u => rfl⟩)
  | some x => obtain ⟨v, H', nx'⟩ := x; exact .inl ⟨v, H', nx', rfl, fun k u => rfl⟩

theorem ansV_some {x : Ans} {y : AV × Heap × Nat} (h : ansV x = some y) : x = .res y.1 y.2.1 y.2.2 := by
  cases x with
  | bad => cases h
  | good => cases h
  | res v H nx => cases h; rfl

theorem locS_ok {orc : Orc} {kp : FuncId → Nat} {n : Nat} (hm : P.follows .mixedOrders = true) (hN : NamesOk P) (hO : ∀ w0, FoundOk P w0 orc) : ∀ d, ∃ o, StdOk (locS P orc kp n fs d) o ∧ ∀ w0, FoundOk P w0 o
  | 0 => ⟨orc, orcStd_ok orc, hO⟩
  | d + 1 => by
    obtain ⟨o, h1, h2⟩ := locS_ok hm hN hO d
    refine ⟨_, locStd_ok orc, fun w0 => orElse_ok (fun f args H nx v H' nx' h => ?_) (hO w0)⟩
    refine local_ok (fun w f args H nx v H' nx' hc => ?_) fs f args H nx v H' nx' (localF_local h)
    have hr := ansV_some hc
    obtain ⟨v2, H2, nx2, h3, h4⟩ := runK_ok h1 (by simp) hr
    injection h4 with e1 e2 e3
    subst e1 e2 e3
    exact call_ok hm hN (h2 w) n f args H nx _ _ _ h3

/-- A RUN THAT COMES TO THE ANSWER TRUE, WITHOUT ARGUMENTS' MEMORY -/
theorem run_true {orc : Orc} {kp : FuncId → Nat} {n d : Nat} (hm : P.follows .mixedOrders = true) (hN : NamesOk P) (hO : ∀ w0, FoundOk P w0 orc) {f : FuncId} {args : List AV} {as : List Value} (hv : VRs (fun _ => none) args as)
    (h : runK P (locS P orc kp n fs d) kp n f args .e 0 (fun v _ _ => isTrue v) = .good) (w : World) : CallsIn Fence.wide 0 P f as.toArray w fun e w' => e = .returned (.bool true) ∧ RowKit.Below w.heap.size w w' := by
  obtain ⟨o, h1, h2⟩ := locS_ok (fs := fs) (kp := kp) (n := n) hm hN hO d
  obtain ⟨v, H', nx', h3, h4⟩ := runK_ok h1 (by simp) h
  obtain ⟨b, rfl, h5⟩ := kBool_ok h4 (by simp)
  cases b with
  | false => cases h5
  | true =>
    obtain ⟨c1, c2⟩ := call_ok hm hN (h2 w) n f args .e 0 _ _ _ h3 (fun _ => none) w as (Rel.empty P w) hv
    refine CallsIn.mono c2 ?_
    rintro e w' ⟨τ, u, rfl, k1, k2, k3⟩
    simp only [VR] at k2
    subst k2
    exact ⟨rfl, k3.below⟩
end
end Go.SK

/- A function without arguments that answers true and leaves what was there: it may stand in for its calls. -/
namespace Go.SK
open Go

def trueOrc (f0 : FuncId) : Orc := fun f args H nx =>
  match Nat.beq f f0, args with
  | true, [] => some (.bool true, H, nx)
  | _, _ => none

section
variable {P : Program} {fs : List Nat} {orc : Orc} {kp : FuncId → Nat} {n d : Nat}
theorem run_enters (hm : P.follows .mixedOrders = true) (hN : NamesOk P) (hO : ∀ w0, FoundOk P w0 orc) {f : FuncId} {args : List AV} {vs : List Value} (hv : VRs (fun _ => none) args vs)
    (h : runK P (locS P orc kp n fs d) kp n f args .e 0 (fun v _ _ => isTrue v) = .good) (w : World) : (callFunc f vs.toArray).run P w = .ok (.enter f vs.toArray) w := by
  obtain ⟨o, h1, h2⟩ := locS_ok (fs := fs) (kp := kp) (n := n) hm hN hO d
  obtain ⟨v, H', nx', h3, h4⟩ := runK_ok h1 (by simp) h
  exact (call_ok hm hN (h2 w) n f args .e 0 _ _ _ h3 (fun _ => none) w vs (Rel.empty P w) hv).1
theorem true_found (hm : P.follows .mixedOrders = true) (hN : NamesOk P) (hO : ∀ w0, FoundOk P w0 orc) {f0 : FuncId}
    (h : runK P (locS P orc kp n fs d) kp n f0 [] .e 0 (fun v _ _ => isTrue v) = .good) (w0 : World) : FoundOk P w0 (trueOrc f0) := by
  intro f args H nx v H' nx' ha σ w vs hR hv
  unfold trueOrc at ha
  split at ha
  · rename_i hf
    have := Nat.eq_of_beq_eq_true hf
    subst this
    cases ha
    simp only [VRs] at hv
    subst hv
    have hn : VRs (fun _ => none) [] [] := by simp only [VRs]
    refine .inl ⟨run_enters hm hN hO hn h w, CallsIn.mono (run_true hm hN hO hn h w) ?_⟩
    rintro e w' ⟨rfl, hb⟩
    exact ⟨σ, .bool true, rfl, Sg.le_refl _, by simp only [VR], hR.frame hb⟩
  · cases ha
end
end Go.SK

