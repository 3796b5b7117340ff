/- Operations of the evaluator do what those of the model do, second part. Conditions: none. -/
import Derived.Test.YtlnhefoegllpmaaGreatDoorSdB
import Derived.Laws.Slices
/- One operation, ninth part: slice expressions. -/
namespace Go.SK
open Go

section
variable {P : Program} {w0 : World} {σ : Sg} {nx : Nat} {H : Heap} {w : World} {E : Env} {ρ : Operand → Value} {o : Oper}

def OptR (σ : Sg) : Option AV → Option Value → Prop
  | none, v => v = none
  | some a, v => ∃ u, v = some u ∧ VR σ a u

theorem evo_ok {x : Option Operand} {a : Option AV} (hE : OpdOn σ E ρ x.toList) (h : evo E x = some a) : OptR σ a (x.map ρ) := by
  cases x with
  | none => simp [evo] at h; subst h; rfl
  | some x =>
    simp only [evo] at h
    split at h
    · rename_i v hv
      cases h
      exact ⟨_, rfl, hE x (by simp) _ hv⟩
    · cases h

theorem bnd_ok {x : AV} {v : Value} {y n : Nat} (hv : VR σ x v) (h : bnd x y = some n) (code : BoundsCode) : (Instr.sliceBound v y code).run P w = .ok n w ∧ n ≤ y := by
  unfold bnd at h
  split at h
  · rename_i k m
    split at h
    · rename_i hle
      cases h
      have hle' := Nat.le_of_ble_eq_true hle
      simp only [VR] at hv
      subst hv
      refine ⟨?_, hle'⟩
      rw [run_sliceBound w k (Int.ofNat n) y code (Int.natCast_nonneg n) (by show (n : Int) ≤ (y : Int); omega)]
      rfl
    · cases h
  · cases h

theorem bounds_ok {len cap l h m : Nat} {lo hi mx : Option AV} {lo' hi' mx' : Option Value} (hl : OptR σ lo lo') (hh : OptR σ hi hi') (hm : OptR σ mx mx')
    (hb : bounds len cap lo hi mx = some (l, h, m)) (isS : Bool) : (Instr.sliceBounds isS len cap lo' hi' mx').run P w = .ok (l, h, m) w ∧ l ≤ h ∧ (mx = none → m = cap) ∧ (mx ≠ none → m ≤ cap) ∧ (hi ≠ none → h ≤ m) ∧ (hi = none → h = len) := by
  unfold bounds at hb
  split at hb
  · cases hb
  · rename_i m' hm'
    split at hb
    · cases hb
    · rename_i h' hh'
      split at hb
      · cases hb
      · rename_i l' hl'
        cases hb
        cases mx with
        | none =>
          simp only [OptR] at hm
          subst hm
          simp only at hm' hh'
          cases hm'
          cases hi with
          | none =>
            simp only [OptR] at hh
            subst hh
            simp only at hh'
            cases hh'
            cases lo with
            | none =>
              simp only [OptR] at hl
              subst hl
              simp only at hl'
              cases hl'
              simp [Instr.sliceBounds]
            | some a =>
              obtain ⟨u, rfl, hu⟩ := hl
              obtain ⟨q1, q2⟩ := bnd_ok (P := P) (w := w) hu hl' .sliceB
              simp [Instr.sliceBounds, q1, q2]
          | some b =>
            obtain ⟨v, rfl, hv⟩ := hh
            obtain ⟨p1, p2⟩ := bnd_ok (P := P) (w := w) hv hh' (if isS then .sliceAcap else .sliceAlen)
            cases lo with
            | none =>
              simp only [OptR] at hl
              subst hl
              simp only at hl'
              cases hl'
              simp [Instr.sliceBounds, p1, p2]
            | some a =>
              obtain ⟨u, rfl, hu⟩ := hl
              obtain ⟨q1, q2⟩ := bnd_ok (P := P) (w := w) hu hl' .sliceB
              simp [Instr.sliceBounds, p1, q1, q2, p2]
        | some c =>
          obtain ⟨x, rfl, hx⟩ := hm
          obtain ⟨r1, r2⟩ := bnd_ok (P := P) (w := w) hx hm' (if isS then .slice3Acap else .slice3Alen)
          cases hi with
          | none => simp at hh'
          | some b =>
            obtain ⟨v, rfl, hv⟩ := hh
            obtain ⟨p1, p2⟩ := bnd_ok (P := P) (w := w) hv hh' .slice3B
            cases lo with
            | none =>
              simp only [OptR] at hl
              subst hl
              simp only at hl'
              cases hl'
              simp [Instr.sliceBounds, r1, p1, p2, r2]
            | some a =>
              obtain ⟨u, rfl, hu⟩ := hl
              obtain ⟨q1, q2⟩ := bnd_ok (P := P) (w := w) hu hl' .slice3C
              simp [Instr.sliceBounds, r1, p1, q1, q2, p2, r2]

theorem bnd_le {x : AV} {y n : Nat} (h : bnd x y = some n) : n ≤ y := by
  unfold bnd at h
  split at h
  · split at h
    · rename_i hle; cases h; exact Nat.le_of_ble_eq_true hle
    · cases h
  · cases h
theorem bounds_le {len cap l h m : Nat} {lo hi mx : Option AV} (hb : bounds len cap lo hi mx = some (l, h, m)) (hl : len ≤ cap) : h ≤ m := by
  unfold bounds at hb
  split at hb
  · cases hb
  · rename_i m' hm'
    split at hb
    · cases hb
    · rename_i h' hh'
      split at hb
      · cases hb
      · cases hb
        cases hi with
        | some v => exact bnd_le hh'
        | none =>
          cases mx with
          | some v => simp at hh'
          | none => simp at hh' hm'; omega

theorem at_if (l : Loc) (off m k size : Nat) : (if m = k then l.at off else (l.at off).add (k * size)) = l.at (match Nat.beq m k with | true => off | false => Nat.add off (Nat.mul k size)) := by
  by_cases c : m = k
  · subst c; simp
  · have : Nat.beq m k = false := by
      cases h : Nat.beq m k with
      | false => rfl
      | true => exact absurd (Nat.eq_of_beq_eq_true h) c
    rw [if_neg c, this]
    simp only [Loc.at, add_at, Nat.add_assoc]
    rfl

theorem opSlice_ok (hR : Rel P w0 σ nx H w) {t : TypeId} {x : Operand} {lo hi mx : Option Operand} (hE : OpdOn σ E ρ (x :: (lo.toList ++ (hi.toList ++ mx.toList)))) {r : OpR} (h : opSlice P E H nx t x lo hi mx = some r)
    (ho : o.op = .slice t x lo hi mx) : OpOk P w0 σ H nx w r (execOp ρ o) := by
  unfold opSlice at h
  split at h
  · rename_i a lo1 hi1 mx1 ha hlo hhi hmx
    have hx := hE x (by simp) _ ha
    have hl := evo_ok (ρ := ρ) (fun y hy => hE y (by simp [hy])) hlo
    have hh := evo_ok (ρ := ρ) (fun y hy => hE y (by simp [hy])) hhi
    have hm := evo_ok (ρ := ρ) (fun y hy => hE y (by simp [hy])) hmx
    have fin : ∀ {v : AV} {u : Value}, VR σ v u → (Instr.sliceAt t (ρ x) (lo.map ρ) (hi.map ρ) (mx.map ρ)).run P w = .ok u w → ValR P w0 σ v H nx ((execOp ρ o).run P w) := by
      intro v u h1 h2
      refine ValR.same hR (v' := u) ?_ h1
      simp only [execOp, ho, Sem.run_bind, h2, Result.andThen_ok, Sem.run_pure]
    unfold sliceOp at h
    split at h
    · -- an array behind a pointer
      rename_i n e ht
      split at h
      · rename_i b off size hs
        split at h
        · rename_i l hh' m hb
          cases h
          obtain ⟨q1, q2, q3, q4, q5, q6⟩ := bounds_ok (P := P) (w := w) hl hh hm hb false
          have hhm : hh' ≤ m := bounds_le hb (Nat.le_refl _)
          simp only [VR] at hx
          obtain ⟨lc, l1, l2⟩ := hx
          refine fin (u := .slice (some (lc.at (match Nat.beq m l with | true => off | false => Nat.add off (Nat.mul l size)))) (hh' - l) (m - l)) (by simp only [VR]; exact ⟨lc, l1, rfl, Nat.sub_le_sub_right hhm _⟩) ?_
          simp only [Instr.sliceAt, Sem.run_bind, run_und ht, Result.andThen_ok, l2, Instr.sureAddr, Sem.run_pure, q1, run_size hs, at_if]
        · cases h
      · cases h
    · -- a string
      rename_i ht
      split at h
      · rename_i s
        rw [fnat_eq] at h
        split at h
        · rename_i l hh' m hb
          rw [Option.map_eq_some_iff] at h
          obtain ⟨rr, hrr, h⟩ := h
          cases h
          simp only [VR] at hx
          obtain ⟨tt, t1, t2⟩ := hx
          have hsz : len s = tt.size := by rw [len_eq, ← t2, List.length_map, Array.length_toList]; rfl
          rw [hsz] at hb
          obtain ⟨q1, q2, q3, q4, q5, q6⟩ := bounds_ok (P := P) (w := w) hl hh hm hb false
          have hm0 : mx.map ρ = none := by cases mx with
            | none => rfl
            | some y => simp [OptR] at hm
          rw [hm0] at q1
          refine fin (u := .string (tt.extract l hh')) ?_ ?_
          · simp only [VR]
            refine ⟨_, rfl, ?_⟩
            unfold sliceOp.part' at hrr
            split at hrr
            · cases hrr
            · rename_i r2 hr2
              obtain ⟨d1, d2⟩ := dropN_eq _ _ _ hr2
              obtain ⟨e1, e2⟩ := takeN_eq _ _ _ hrr
              rw [ByteArray.data_extract, Array.toList_extract, List.extract_eq_take_drop, List.map_take, List.map_drop, t2, e2, d2]
              rfl
          · rw [hm0]
            simp only [Instr.sliceAt, Sem.run_bind, run_und ht, Result.andThen_ok, t1, Instr.slice, Option.isSome_none, Bool.false_eq_true, if_false, q1, Sem.run_pure]
        · cases h
      · cases h
    · -- a slice
      rename_i e ht
      have hsl : (Instr.sliceAt t (ρ x) (lo.map ρ) (hi.map ρ) (mx.map ρ)).run P w = (Instr.slice t (ρ x) (lo.map ρ) (hi.map ρ) (mx.map ρ)).run P w := by
        simp only [Instr.sliceAt, Sem.run_bind, run_und ht, Result.andThen_ok]
      split at h
      · rename_i s hs
        split at h
        · rename_i q hb
          obtain ⟨l, hh', m⟩ := q
          cases h
          obtain ⟨q1, q2, q3, q4, q5, q6⟩ := bounds_ok (P := P) (w := w) hl hh hm hb true
          simp only [VR] at hx
          have hm0 : m = 0 := by
            cases mx1 with
            | none => exact q3 rfl
            | some y => have := q4 (by simp); omega
          have hh0 : hh' = 0 := by
            cases hi1 with
            | none => exact q6 rfl
            | some y => have := q5 (by simp); omega
          have hl0 : l = 0 := by omega
          refine fin (u := .slice none 0 0) (by simp [VR]) ?_
          rw [hsl]
          simp only [Instr.slice, Sem.run_bind, run_und ht, Result.andThen_ok, hx, q1, run_size hs, Sem.run_pure]
          simp [hm0, hh0, hl0]
        · cases h
      · rename_i b off n c size hs
        split at h
        · rename_i l hh' m hb
          cases h
          obtain ⟨q1, _⟩ := bounds_ok (P := P) (w := w) hl hh hm hb true
          simp only [VR] at hx
          obtain ⟨lc, l1, l2, lnc⟩ := hx
          have hhm : hh' ≤ m := bounds_le hb lnc
          refine fin (u := .slice (some (lc.at (match Nat.beq m l with | true => off | false => Nat.add off (Nat.mul l size)))) (hh' - l) (m - l)) (by simp only [VR]; exact ⟨lc, l1, rfl, Nat.sub_le_sub_right hhm _⟩) ?_
          rw [hsl]
          simp only [Instr.slice, Sem.run_bind, run_und ht, Result.andThen_ok, l2, q1, run_size hs, Sem.run_pure, Option.map_some, ← at_if]
          split <;> rfl
        · cases h
      · rename_i b off n size hs
        simp only [VR] at hx
        obtain ⟨lc, c', l1, l2, l3, l4⟩ := hx
        split at h
        · rename_i mv
          split at h
          · rename_i l hh' m hb
            cases h
            have hb' : bounds n c' lo1 hi1 (some mv) = some (l, hh', m) := by
              unfold bounds at hb ⊢
              simp only at hb ⊢
              have : bnd mv n = some m → bnd mv c' = some m := by
                intro hq
                unfold bnd at hq ⊢
                split at hq
                · split at hq
                  · rename_i hle
                    cases hq
                    have := Nat.le_of_ble_eq_true hle
                    rw [Nat.ble_eq_true_of_le (by omega)]
                  · cases hq
                · cases hq
              cases hq : bnd mv n with
              | none => rw [hq] at hb; cases hb
              | some m' =>
                rw [hq] at hb
                simp only at hb
                have hmm : m' = m := by
                  split at hb
                  · cases hb
                  · split at hb
                    · cases hb
                    · cases hb; rfl
                subst hmm
                rw [this hq]
                exact hb
            obtain ⟨q1, _⟩ := bounds_ok (P := P) (w := w) hl hh hm hb' true
            have hhm : hh' ≤ m := bounds_le hb' l3
            refine fin (u := .slice (some (lc.at (match Nat.beq m l with | true => off | false => Nat.add off (Nat.mul l size)))) (hh' - l) (m - l)) (by simp only [VR]; exact ⟨lc, l1, rfl, Nat.sub_le_sub_right hhm _⟩) ?_
            rw [hsl]
            simp only [Instr.slice, Sem.run_bind, run_und ht, Result.andThen_ok, l2, q1, run_size hs, Sem.run_pure, Option.map_some, ← at_if]
            split <;> rfl
          · cases h
        · split at h
          · rename_i l hh' m cs e' k hb hg
            split at h
            · rename_i hcond
              cases h
              rw [Bool.and_eq_true] at hcond
              have hee := Nat.eq_of_beq_eq_true hcond.2
              subst hee
              obtain ⟨lc2, z1, z2⟩ := hR.dom b _ hg
              rw [l1] at z1; cases z1
              simp only [OR] at z2
              obtain ⟨xs, fz, g1, g2, g3, g4, g5, g6, g7⟩ := z2
              have hesz : lc.esz = size := by
                have : sizeT P e = some lc.esz := g7
                rw [hs] at this; cases this; rfl
              have hb' : bounds n c' lo1 hi1 none = some (l, hh', c') := by
                unfold bounds at hb ⊢
                simp only at hb ⊢
                cases hi1 with
                | none =>
                  simp only at hb ⊢
                  split at hb
                  · cases hb
                  · rename_i l' hl'
                    cases hb
                    first | rfl | rw [hl']
                | some b1 =>
                  simp only at hb ⊢
                  cases hq : bnd b1 n with
                  | none => rw [hq] at hb; cases hb
                  | some h1 =>
                    rw [hq] at hb
                    have : bnd b1 c' = some h1 := by
                      unfold bnd at hq ⊢
                      split at hq
                      · split at hq
                        · rename_i hle
                          cases hq
                          have := Nat.le_of_ble_eq_true hle
                          rw [Nat.ble_eq_true_of_le (by omega)]
                        · cases hq
                      · cases hq
                    rw [this]
                    simp only at hb ⊢
                    split at hb
                    · cases hb
                    · rename_i l' hl'
                      cases hb
                      first | rfl | rw [hl']
              obtain ⟨q1, q2, q3, q4, q5, q6⟩ := bounds_ok (P := P) (w := w) hl hh hm hb' true
              obtain ⟨_, _, _, _, p5, p6⟩ := bounds_ok (P := P) (w := w) hl hh hm hb true
              have hhn : hh' ≤ n := by
                obtain ⟨_, _, p3, _, _, _⟩ := bounds_ok (P := P) (w := w) hl hh hm hb true
                have := p3 rfl
                cases hi1 with
                | none => have := p6 rfl; omega
                | some b1 => have := p5 (by simp); omega
              have hlh : l < hh' ∨ l = 0 := by
                have := hcond.1
                rw [Bool.or_eq_true] at this
                rcases this with q | q
                · left; simpa using q
                · right; exact Nat.eq_of_beq_eq_true q
              refine fin (u := .slice (some (lc.at (Nat.add off (Nat.mul l size)))) (hh' - l) (c' - l)) ?_ ?_
              · simp only [VR]
                refine ⟨lc, c' - l, l1, rfl, by show hh' - l ≤ c' - l; omega, ?_⟩
                show lc.off + (off + l * size) + (c' - l) * lc.esz ≤ lc.size
                rw [hesz] at l4 ⊢
                have : l * size + (c' - l) * size = c' * size := by rw [← Nat.add_mul]; congr 1; omega
                omega
              · rw [hsl]
                simp only [Instr.slice, Sem.run_bind, run_und ht, Result.andThen_ok, l2, q1, run_size hs, Sem.run_pure, Option.map_some]
                congr 2
                by_cases hc : c' = l
                · rw [if_pos hc]
                  have : l = 0 := by omega
                  subst this
                  show some (lc.at off) = some (lc.at (off + 0 * size))
                  rw [Nat.zero_mul, Nat.add_zero]
                · rw [if_neg hc]
                  simp only [Loc.at, add_at, Nat.add_assoc]
                  rfl
            · cases h
          · cases h
      · cases h
    · -- a pointer to an array
      rename_i arr ht
      split at h
      · rename_i b off n e hae
        split at h
        · rename_i size hs
          split at h
          · rename_i l hh' m hb
            cases h
            obtain ⟨q1, q2, q3, q4, q5, q6⟩ := bounds_ok (P := P) (w := w) hl hh hm hb false
            have hhm : hh' ≤ m := bounds_le hb (Nat.le_refl _)
            simp only [VR] at hx
            obtain ⟨lc, l1, l2⟩ := hx
            refine fin (u := .slice (some (lc.at (match Nat.beq m l with | true => off | false => Nat.add off (Nat.mul l size)))) (hh' - l) (m - l)) (by simp only [VR]; exact ⟨lc, l1, rfl, Nat.sub_le_sub_right hhm _⟩) ?_
            simp only [Instr.sliceAt, Sem.run_bind, run_und ht, Result.andThen_ok, l2, Instr.slice, asAddr, run_und hae, Sem.run_pure, q1, run_size hs, at_if]
          · cases h
        · cases h
      · cases h
    · cases h
  · cases h

end
end Go.SK

/- One operation, tenth part: append. -/
namespace Go.SK
open Go

theorem growBy_le (nl : Nat) : ∀ (r c B : Nat), c ≤ B → nl + (nl + 768) / 4 ≤ B → Builtin.growBy nl r c ≤ B
  | 0, c, B, h, _ => h
  | r + 1, c, B, h, h2 => by
    simp only [Builtin.growBy]
    split
    · exact h
    · exact growBy_le nl r _ B (by omega) h2
theorem nextcap_le (need cap : Nat) (h : cap < need) : Builtin.nextslicecap need cap ≤ 2 * need + 768 := by
  unfold Builtin.nextslicecap
  split
  · omega
  · split
    · omega
    · exact growBy_le _ _ _ _ (by omega) (by omega)

section
variable {P : Program} {w0 : World} {σ : Sg} {nx : Nat} {H : Heap} {w : World} {E : Env} {ρ : Operand → Value} {o : Oper}

theorem cellsOfS_ok' (hR : Rel P w0 σ nx H w) {size n : Nat} {x : AV} {v : Value} {r : List AV} (hv : VR σ x v) (h : cellsOfS H size n x = some r) :
    ∃ vs : List Value, (∀ w' : World, (∀ k : Nat, w'.heap[k]? = w.heap[k]?) → (Builtin.firstCells size n v).run P w' = .ok vs.toArray w') ∧ VRs σ r vs ∧ (∀ a ∈ r, sc a) ∧ r.length = n * size := by
  unfold cellsOfS at h
  split at h
  · split at h
    · rename_i hn
      cases h
      have := Nat.eq_of_beq_eq_true hn
      subst this
      simp only [VR] at hv
      subst hv
      exact ⟨[], fun _ _ => rfl, by simp [VRs], by simp, by simp⟩
    · cases h
  · rename_i b off l c
    split at h
    · rename_i cs hcs
      obtain ⟨e, k, hg⟩ := getCells_get hcs
      obtain ⟨lc, l1, hO⟩ := hR.dom b _ hg
      obtain ⟨c', hv'⟩ : ∃ c', v = .slice (some (lc.at off)) l c' := by
        cases c <;> simp only [VR] at hv <;> (obtain ⟨l', hv⟩ := hv)
        · obtain ⟨cc, q1, q2, _⟩ := hv; rw [l1] at q1; cases q1; exact ⟨_, q2⟩
        · obtain ⟨q1, q2, _⟩ := hv; rw [l1] at q1; cases q1; exact ⟨_, q2⟩
      subst hv'
      obtain ⟨vs, u1, u2, u3, u4⟩ := hO.row' h
      exact ⟨vs, u1, u2, u3, u4⟩
    · cases h
  · rename_i s
    split at h
    case h_2 => cases h
    rename_i hsz
    have hsz' := Nat.eq_of_beq_eq_true hsz
    subst hsz'
    rw [Option.map_eq_some_iff] at h
    obtain ⟨s', hs', rfl⟩ := h
    obtain ⟨h1, h2⟩ := takeN_eq _ _ _ hs'
    simp only [VR] at hv
    obtain ⟨t, rfl, t2⟩ := hv
    refine ⟨((t.extract 0 n).data.map fun b => .int .u8 b.toNat).toList, fun _ _ => by simp only [Builtin.firstCells, Sem.run_pure, Array.toArray_toList], ?_, ?_, by rw [List.length_map, h2, List.length_take]; omega⟩
    · have e : (t.extract 0 n).data.toList = t.data.toList.take n := by
        rw [ByteArray.data_extract, Array.toList_extract, List.extract_eq_take_drop]; simp
      rw [Array.toList_map, e, h2, ← t2, ← List.map_take]
      generalize t.data.toList.take n = bs
      induction bs with
      | nil => simp [VRs]
      | cons b bs ih => simp only [List.map_cons, VRs, VR]; exact ⟨_, _, rfl, rfl, ih⟩
    · intro a ha
      simp only [List.mem_map] at ha
      obtain ⟨c, _, rfl⟩ := ha
      trivial
  · cases h

theorem cellsOfS_ok (hR : Rel P w0 σ nx H w) {size n : Nat} {x : AV} {v : Value} {r : List AV} (hv : VR σ x v) (h : cellsOfS H size n x = some r) :
    ∃ vs : List Value, (Builtin.firstCells size n v).run P w = .ok vs.toArray w ∧ VRs σ r vs ∧ (∀ a ∈ r, sc a) ∧ r.length = n * size :=
  let ⟨vs, h1, h2⟩ := cellsOfS_ok' hR hv h; ⟨vs, h1 w (fun _ => rfl), h2⟩

/-- the shape of a slice's value -/
theorem slc_at {b off n : Nat} {c : Option Nat} {v : Value} {l : Loc} (hl : σ b = some l) (hv : VR σ (.slc b off n c) v) : ∃ c', v = .slice (some (l.at off)) n c' ∧ n ≤ c' ∧ (∀ k, c = some k → c' = k) ∧ (c = none → l.off + off + c' * l.esz ≤ l.size) := by
  cases c with
  | none =>
    simp only [VR] at hv
    obtain ⟨l', c', h1, h2, h3, h4⟩ := hv
    rw [hl] at h1; cases h1
    exact ⟨c', h2, h3, by simp, fun _ => h4⟩
  | some k =>
    simp only [VR] at hv
    obtain ⟨l', h1, h2, h3⟩ := hv
    rw [hl] at h1; cases h1
    exact ⟨k, h2, h3, by simp, by simp⟩

/-- the model's append, behind the reading of its arguments -/
def modelApp (size : Nat) (elem : TypeId) (zero : Value) (base : Option Addr) (sLen sCap n : Nat) (s : Value) (appended : Sem (Array Value)) : Sem Value := do
  let need := sLen + n
  if need ≤ sCap then
    let new ← appended
    if let some a := base then storeCells (a.add (sLen * size)) new.toList
    pure (.slice base need sCap)
  else
    let newCap ← choose (.appendCap need sCap elem)
    let old ← Builtin.firstCells size sLen s
    let new ← appended
    let rest := Builtin.zeroCells zero.cells (newCap - need)
    pure (.slice (some (← newRow elem (old ++ new ++ rest))) need newCap)

theorem run_append_len {sType e : TypeId} {size n : Nat} {i : TypeInfo} {zero : Value} {xType : Option TypeId} {base : Option Addr} {sLen sCap : Nat} {x : Value} {argTypes : Array TypeId} {ty : TypeId}
    (h0 : argTypes[0]? = some sType) (h1 : argTypes[1]? = xType) (ht : P.underlying sType = some (.slice e)) (hs : sizeT P e = some size) (hi : P.info? e = some i) (hz : i.zero = some zero)
    (hI : isIntT P xType = some false) (hn : (Builtin.lenOf x).run P w = .ok n w)
    (hneed : sCap < sLen + n → (sLen + n) * i.bytes ≤ 1073741824 ∧ sLen + n ≤ 1073741824) :
    (Builtin.append_ argTypes ty #[.slice base sLen sCap, x]).run P w = (modelApp size e zero base sLen sCap n (.slice base sLen sCap) (Builtin.firstCells size n x)).run P w := by
  have a0 : (#[Value.slice base sLen sCap, x] : Array Value)[0]? = some (.slice base sLen sCap) := rfl
  have a1 : (#[Value.slice base sLen sCap, x] : Array Value)[1]? = some x := rfl
  have rest : ∀ d : Option TypeDesc, (match xType with | none => d = none | some t => P.underlying t = d ∧ ∃ q, d = some q ∧ ∀ k, q ≠ .int k) →
      (Builtin.append_ argTypes ty #[.slice base sLen sCap, x]).run P w = (modelApp size e zero base sLen sCap n (.slice base sLen sCap) (Builtin.firstCells size n x)).run P w := by
    intro d hd
    have hz' : ∀ w : World, (zeroValue e).run P w = .ok zero w := fun w => run_zero hi hz
    have go : ∀ zs : Bool, zs = false → True := fun _ _ => trivial
    by_cases hle : sLen + n ≤ sCap
    · cases xType with
      | none =>
        unfold Builtin.append_ modelApp
        simp only [h0, h1, a0, a1, Sem.run_bind, run_und ht, run_size hs, Result.andThen_ok, Sem.run_pure, Bool.false_eq_true, if_false, hn, hle, if_true, Bool.not_false]
        rfl
      | some t =>
        obtain ⟨d1, q, rfl, hq⟩ := hd
        have hm : (match q with | .int _ => true | _ => false) = false := by cases q <;> first | rfl | exact absurd rfl (hq _)
        unfold Builtin.append_ modelApp
        simp only [h0, h1, a0, a1, Sem.run_bind, run_und ht, run_size hs, Result.andThen_ok, Sem.run_pure, run_und d1, Bool.false_eq_true, if_false, hn, hle, if_true, Bool.not_false]
        rfl
    · obtain ⟨b1, b2⟩ := hneed (by omega)
      have hA : ¬ (((sLen + n : Nat) : Int) > IntKind.i64.max) := by simp [IntKind.max, IntKind.bits, IntKind.signed]; omega
      have hB : ¬ (Builtin.nextslicecap (sLen + n) sCap * i.bytes > 2 ^ 48) := by
        have h1 := nextcap_le (sLen + n) sCap (by omega)
        have h2 : Builtin.nextslicecap (sLen + n) sCap * i.bytes ≤ (2 * (sLen + n) + 768) * i.bytes := Nat.mul_le_mul_right _ h1
        have h3 : i.bytes ≤ (sLen + n) * i.bytes := Nat.le_mul_of_pos_left _ (by omega)
        have h4 : (2 * (sLen + n) + 768) * i.bytes = 2 * ((sLen + n) * i.bytes) + 768 * i.bytes := by rw [Nat.add_mul, Nat.mul_assoc]
        omega
      have hq' : ∀ c, Question.forced (.appendCap (sLen + n) c e) = false := fun _ => rfl
      cases xType with
      | none =>
        unfold Builtin.append_ modelApp
        simp only [h0, h1, a0, a1, Sem.run_bind, run_und ht, run_size hs, Result.andThen_ok, Sem.run_pure, Bool.false_eq_true, if_false, hn, hle, Bool.not_false, if_true, typeInfo, run_program, hi, hA, false_and, hB, run_askRoom, run_choose, hq', hz']
      | some t =>
        obtain ⟨d1, q, rfl, hq⟩ := hd
        have hm : (match q with | .int _ => true | _ => false) = false := by cases q <;> first | rfl | exact absurd rfl (hq _)
        unfold Builtin.append_ modelApp
        simp only [h0, h1, a0, a1, Sem.run_bind, run_und ht, run_size hs, Result.andThen_ok, Sem.run_pure, run_und d1, Bool.false_eq_true, if_false, hn, hle, Bool.not_false, if_true, typeInfo, run_program, hi, hA, false_and, hB, run_askRoom, run_choose, hq', hz']
  cases xType with
  | none => exact rest none rfl
  | some t =>
    simp only [isIntT] at hI
    cases ht' : P.underlying t with
    | none => rw [ht'] at hI; cases hI
    | some q =>
      rw [ht'] at hI
      exact rest (some q) ⟨ht', q, rfl, fun k e => by subst e; simp at hI⟩

theorem run_append_make {sType e t : TypeId} {size n : Nat} {i : TypeInfo} {zero : Value} {k k2 : IntKind} {base : Option Addr} {sLen sCap : Nat} {argTypes : Array TypeId} {ty : TypeId}
    (h0 : argTypes[0]? = some sType) (h1 : argTypes[1]? = some t) (ht : P.underlying sType = some (.slice e)) (hs : sizeT P e = some size) (hi : P.info? e = some i) (hz : i.zero = some zero)
    (hI : P.underlying t = some (.int k)) (hsm : n * i.bytes ≤ 1073741824) (hsm2 : n ≤ 1073741824)
    (hneed : sCap < sLen + n → (sLen + n) * i.bytes ≤ 1073741824 ∧ sLen + n ≤ 1073741824) (hzs : zero.cells.size = size) :
    (Builtin.append_ argTypes ty #[.slice base sLen sCap, .int k2 (Int.ofNat n)]).run P w = (modelApp size e zero base sLen sCap n (.slice base sLen sCap) (pure (Builtin.zeroCells zero.cells n))).run P w := by
  have a0 : (#[Value.slice base sLen sCap, .int k2 (Int.ofNat n)] : Array Value)[0]? = some (.slice base sLen sCap) := rfl
  have a1 : (#[Value.slice base sLen sCap, .int k2 (Int.ofNat n)] : Array Value)[1]? = some (.int k2 (Int.ofNat n)) := rfl
  have hz' : ∀ w : World, (zeroValue e).run P w = .ok zero w := fun w => run_zero hi hz
  have hw : IntKind.i64.wrap (Int.ofNat n) = n := by simp [IntKind.wrap, IntKind.bits, IntKind.signed]; omega
  have c1 : ¬ ((n : Int) < 0) := by omega
  have c2 : ¬ ((n : Int) * (i.bytes : Int) > 2 ^ 48) := by
    have : ((n * i.bytes : Nat) : Int) ≤ 1073741824 := by omega
    rw [Int.natCast_mul] at this; omega
  have hzero : n * size = 0 → Builtin.zeroCells zero.cells n = #[] := fun h => by unfold Builtin.zeroCells; rw [hzs, h]; simp
  have happ : ∀ w : World, ((if n * size = 0 then pure #[] else do pure (Builtin.zeroCells (← zeroValue e).cells n)) : Sem (Array Value)).run P w = .ok (Builtin.zeroCells zero.cells n) w := fun w => by
    split
    · rename_i h; rw [hzero h]; rfl
    · simp [hz' w]
  by_cases hle : sLen + n ≤ sCap
  · unfold Builtin.append_ modelApp
    simp only [h0, h1, a0, a1, Sem.run_bind, run_und ht, run_und hI, run_size hs, Result.andThen_ok, Sem.run_pure, asInt, asIntOf, hw, c1, c2, if_false, typeInfo, run_program, hi, Int.toNat_natCast, hle, if_true, Bool.not_true, Bool.false_eq_true]
    by_cases hns : n * size = 0
    · simp only [hns, if_true, Sem.run_pure, Result.andThen_ok, hzero hns]
      rfl
    · simp only [hns, if_false, Sem.run_bind, Sem.run_pure, Result.andThen_ok, hz']
      rfl
  · obtain ⟨b1, b2⟩ := hneed (by omega)
    have hA : ¬ (((sLen + n : Nat) : Int) > IntKind.i64.max) := by simp [IntKind.max, IntKind.bits, IntKind.signed]; omega
    have hB : ¬ (Builtin.nextslicecap (sLen + n) sCap * i.bytes > 2 ^ 48) := by
      have h1 := nextcap_le (sLen + n) sCap (by omega)
      have h2 : Builtin.nextslicecap (sLen + n) sCap * i.bytes ≤ (2 * (sLen + n) + 768) * i.bytes := Nat.mul_le_mul_right _ h1
      have h3 : i.bytes ≤ (sLen + n) * i.bytes := Nat.le_mul_of_pos_left _ (by omega)
      have h4 : (2 * (sLen + n) + 768) * i.bytes = 2 * ((sLen + n) * i.bytes) + 768 * i.bytes := by rw [Nat.add_mul, Nat.mul_assoc]
      omega
    have hq' : ∀ c, Question.forced (.appendCap (sLen + n) c e) = false := fun _ => rfl
    unfold Builtin.append_ modelApp
    simp only [h0, h1, a0, a1, Sem.run_bind, run_und ht, run_und hI, run_size hs, Result.andThen_ok, Sem.run_pure, asInt, asIntOf, hw, c1, c2, if_false, typeInfo, run_program, hi, Int.toNat_natCast, hle, if_true, Bool.not_true, Bool.false_eq_true, hA, false_and, hB, run_askRoom, run_choose, hq', hz']
    by_cases hns : n * size = 0
    · simp only [hns, if_true, Sem.run_pure, Result.andThen_ok, hzero hns]
    · simp only [hns, if_false, Sem.run_bind, Sem.run_pure, Result.andThen_ok, hz']

end
end Go.SK

/- One operation, eleventh part: append is sound. -/
namespace Go.SK
open Go

section
variable {P : Program} {w0 : World} {σ : Sg} {nx : Nat} {H : Heap} {w : World} {E : Env} {ρ : Operand → Value} {o : Oper}

/-- what a value-giving operation of the model comes to -/
def ValS (P : Program) (w0 : World) (σ : Sg) (v : AV) (H' : Heap) (nx' : Nat) (r : Result Value) : Prop :=
  ∃ τ v' w', Sg.le σ τ ∧ r = .ok v' w' ∧ VR τ v v' ∧ Rel P w0 τ nx' H' w'

def OpS (P : Program) (w0 : World) (σ : Sg) (_H : Heap) (_nx : Nat) (w : World) (r : OpR) (x : Sem Value) : Prop :=
  ∃ v H' nx', r = .val v H' nx' ∧ ValS P w0 σ v H' nx' (x.run P w)

theorem firstCells_nil (size n : Nat) : (Builtin.firstCells size n (.slice none 0 0)) = pure #[] := rfl

theorem toArray_append_toList (a b c : List Value) : (a.toArray ++ b.toArray ++ c.toArray) = (a ++ b ++ c).toArray := by simp

/-- growing -/
theorem grown_ok (_hR : Rel P w0 σ nx H w) {e : TypeId} {size : Nat} {old new : List AV} {olds news : List Value} {zero : Value} {need l n : Nat} (hsz : sizeT P e = some size)
    (ho : VRs σ old olds) (hn : VRs σ new news) (so : ∀ a ∈ old, sc a) (sn : ∀ a ∈ new, sc a) (lo : old.length = l * size) (ln : new.length = n * size) (hneed : need = l + n) (hz : zero.cells.size = size) (newCap : Nat) (hcap : need ≤ newCap)
    (H1 : Heap) (hR1 : Rel P w0 σ nx H1 w) :
    Rel P w0 (σ.ext nx ⟨w.heap.size, 0, newCap * size, size⟩) (nx + 1) (H1.set nx (some (.cells (old ++ new) e .own))) (w.alloc (.cells (olds.toArray ++ news.toArray ++ Builtin.zeroCells zero.cells (newCap - need)) e)) := by
  refine hR1.alloc _ _ _ rfl ?_
  have hlen : (olds.toArray ++ news.toArray ++ Builtin.zeroCells zero.cells (newCap - need)).size = newCap * size := by
    simp only [Array.size_append, List.size_toArray, ho.len, hn.len, lo, ln, Builtin.zeroCells, Array.size_map, Array.size_range, hz]
    rw [← Nat.add_mul, ← Nat.add_mul]; congr 1; omega
  simp only [OR]
  refine ⟨_, (0, 0), heap_new _ _, hlen, ?_, fun i a hi => ?_, ?_, rfl, hsz⟩
  · rw [hlen, List.length_append, lo, ln, ← Nat.add_mul]
    have := Nat.mul_le_mul_right size hcap
    rw [← hneed]; omega
  · have hv := VRs.append ho hn
    obtain ⟨v, v1, v2⟩ := hv.get i a hi
    refine ⟨v, ?_, v2.mono (Sg.le_ext (hR1.fresh nx (Nat.le_refl _)))⟩
    have hil : i < (olds ++ news).length := (List.getElem?_eq_some_iff.1 v1).1
    rw [Nat.zero_add, Array.getElem?_append_left (by simpa using hil)]
    rw [← v1]
    simp
  · intro a ha
    rw [List.mem_append] at ha
    exact ha.elim (so a) (sn a)

theorem appTo_ok (hR : Rel P w0 σ nx H w) {e : TypeId} {size bytes n : Nat} {s : AV} {base : Option Addr} {sLen sCap : Nat} {new : List AV} {news : List Value} {zero : Value} {r : OpR} {app : Sem (Array Value)}
    (hsz : sizeT P e = some size) (hs : VR σ s (.slice base sLen sCap)) (happ : ∀ w', (∀ k : Nat, w'.heap[k]? = w.heap[k]?) → app.run P w' = .ok news.toArray w') (hn : VRs σ new news) (sn : ∀ a ∈ new, sc a) (ln : new.length = n * size)
    (hz : zero.cells.size = size) (h : appTo H nx e size bytes s n new = some r) :
    OpS P w0 σ H nx w r (modelApp size e zero base sLen sCap n (.slice base sLen sCap) app) := by
  have hself := happ w (fun _ => rfl)
  have hdrew := happ w.drew (fun _ => rfl)
  unfold appTo at h
  split at h
  · -- nothing is appended
    rename_i h0
    have hn0 := Nat.eq_of_beq_eq_true h0
    subst hn0
    have hnil : news = [] := by
      have : news.length = 0 := by rw [hn.len, ln]; simp
      exact List.eq_nil_of_length_eq_zero this
    have key : sLen ≤ sCap → OpS P w0 σ H nx w (.val s H nx) (modelApp size e zero base sLen sCap 0 (.slice base sLen sCap) app) := by
      intro hle
      refine ⟨s, H, nx, rfl, σ, .slice base sLen sCap, w, Sg.le_refl _, ?_, hs, hR⟩
      unfold modelApp
      simp only [Nat.add_zero, hle, if_true, Sem.run_bind, hself, Result.andThen_ok, hnil]
      cases base <;> rfl
    split at h
    · cases h
      simp only [VR] at hs
      cases hs
      exact key (Nat.le_refl _)
    · rename_i b off l c
      cases h
      have hle : sLen ≤ sCap := by
        have : ∃ lc, σ b = some lc := by cases c <;> simp only [VR] at hs <;> (obtain ⟨lc, hs⟩ := hs) <;> first | exact ⟨lc, hs.1⟩ | (obtain ⟨_, h1, _⟩ := hs; exact ⟨lc, h1⟩)
        obtain ⟨lc, hlc⟩ := this
        obtain ⟨c', h1, h2, _⟩ := slc_at hlc hs
        cases h1
        exact h2
      exact key hle
    · cases h
  · rename_i h0
    have hn0 : 0 < n := by
      rcases Nat.eq_zero_or_pos n with c | c
      · subst c; simp at h0
      · exact c
    have q : ∀ c, Question.forced (.appendCap (sLen + n) c e) = false := fun _ => rfl
    -- the model grows
    have grow : sCap < sLen + n → ∀ (old : List AV) (olds : List Value) (H1 : Heap), Rel P w0 σ nx H1 w → VRs σ old olds → (∀ a ∈ old, sc a) → old.length = sLen * size →
        (Builtin.firstCells size sLen (.slice base sLen sCap)).run P w.drew = .ok olds.toArray w.drew →
        ∃ newCap, sLen + n ≤ newCap ∧ (modelApp size e zero base sLen sCap n (.slice base sLen sCap) app).run P w = .ok (.slice (some ⟨w.heap.size, 0, none⟩) (sLen + n) newCap) (w.drew.alloc (.cells (olds.toArray ++ news.toArray ++ Builtin.zeroCells zero.cells (newCap - (sLen + n))) e)) ∧
          Rel P w0 (σ.ext nx ⟨w.heap.size, 0, newCap * size, size⟩) (nx + 1) (H1.set nx (some (.cells (old ++ new) e .own))) (w.drew.alloc (.cells (olds.toArray ++ news.toArray ++ Builtin.zeroCells zero.cells (newCap - (sLen + n))) e)) := by
      intro hlt old olds H1 hR1 ho so lo hf
      refine ⟨Question.cut (.appendCap (sLen + n) sCap e) (w.tape w.drawn (.appendCap (sLen + n) sCap e)), by simp only [Question.cut]; omega, ?_, ?_⟩
      · unfold modelApp
        rw [if_neg (by omega)]
        simp only [Sem.run_bind, run_choose, q, Bool.false_eq_true, if_false, Result.andThen_ok, World.drew_eq, hf, hdrew, newRow, run_newObj, Sem.run_pure]
        rfl
      · exact grown_ok (w := w.drew) hR.drew hsz ho hn so sn lo ln rfl hz _ (by simp only [Question.cut]; omega) H1 hR1.drew
    split at h
    · -- onto nil
      split at h
      · cases h
        simp only [VR] at hs
        cases hs
        obtain ⟨newCap, g1, g2, g3⟩ := grow (by omega) [] [] H hR (by simp [VRs]) (by simp) (by simp) rfl
        refine ⟨_, _, _, rfl, _, _, _, Sg.le_ext (hR.fresh nx (Nat.le_refl _)), g2, ?_, g3⟩
        simp only [VR]
        exact ⟨_, newCap, Sg.ext_same _ _ _, by simp [Loc.at], by omega, by simp⟩
      · cases h
    · rename_i b off l c
      rw [fnat_eq] at h
      split at h
      · have hlc : ∃ lc, σ b = some lc := by cases c <;> simp only [VR] at hs <;> (obtain ⟨lc, hs⟩ := hs) <;> first | exact ⟨lc, hs.1⟩ | (obtain ⟨_, h1, _⟩ := hs; exact ⟨lc, h1⟩)
        obtain ⟨lc, hlc⟩ := hlc
        obtain ⟨c', h1, h2, h3, h4⟩ := slc_at hlc hs
        cases h1
        unfold appS at h
        split at h
        · rename_i k
          have hk := h3 k rfl
          subst hk
          split at h
          · rename_i hle
            have hle' : sLen + n ≤ sCap := Nat.le_of_ble_eq_true hle
            split at h
            · rename_i H' hH'
              cases h
              obtain ⟨w', s1, s2⟩ := storeCs_ok hR hlc hH' hn sn
              refine ⟨_, _, _, rfl, σ, .slice (some (lc.at off)) (sLen + n) sCap, w', Sg.le_refl _, ?_, ?_, s2⟩
              · unfold modelApp
                have ea : (lc.at off).add (sLen * size) = lc.at (Nat.add off (Nat.mul sLen size)) := by simp only [Loc.at, add_at, Nat.add_assoc]; rfl
                rw [if_pos hle']
                simp only [Sem.run_bind, hself, Result.andThen_ok, ea, s1, Sem.run_pure]
              · simp only [VR]; exact ⟨lc, hlc, rfl, hle'⟩
            · cases h
          · rename_i hnle
            split at h
            · rename_i old hold
              cases h
              have hlt : sCap < sLen + n := by
                rcases Nat.lt_or_ge sCap (sLen + n) with q1 | q1
                · exact q1
                · have : Nat.ble (Nat.add sLen n) sCap = true := Nat.ble_eq_true_of_le q1
                  rw [this] at hnle; cases hnle
              obtain ⟨olds, o1, o2, o3, o4⟩ := cellsOfS_ok hR.drew hs hold
              obtain ⟨newCap, g1, g2, g3⟩ := grow hlt old olds H hR o2 o3 o4 o1
              refine ⟨_, _, _, rfl, _, _, _, Sg.le_ext (hR.fresh nx (Nat.le_refl _)), g2, ?_, g3⟩
              simp only [VR]
              exact ⟨_, newCap, Sg.ext_same _ _ _, by first | (simp [Loc.at]; done) | (simp [Loc.at]; rfl), g1, by simp⟩
            · cases h
        · -- the capacity is not known
          have h4' := h4 rfl
          split at h
          · rename_i cs e' k hg
            obtain ⟨lc2, z1, hO⟩ := hR.dom b _ hg
            rw [hlc] at z1; cases z1
            have hO' := hO
            simp only [OR] at hO'
            obtain ⟨xs, fz, g1, g2, g3, g4, g5, g6, g7⟩ := hO'
            have hcase : k ≠ .ro ∧ Nat.beq e e' = true ∧ ∃ old, part cs off (Nat.mul sLen size) = some old ∧ r = grown (H.set b none) nx e k old new (Nat.add sLen n) := by
              split at h
              · cases h
              · rename_i k' old hro he' hold
                cases h
                exact ⟨fun hk => by subst hk; exact hro rfl, he', old, hold, rfl⟩
              · cases h
            obtain ⟨hk, hee, old, hold, rfl⟩ := hcase
            have hee' := Nat.eq_of_beq_eq_true hee
            subst hee'
            have hesz : lc.esz = size := by
              have : sizeT P e = some lc.esz := g7
              rw [hsz] at this; cases this; rfl
            rw [hesz] at h4'
            obtain ⟨p1, p2⟩ := part_eq hold
            by_cases hle : sLen + n ≤ sCap
            · -- in place
              have hfree : ∀ j, j < xs.size → (decide (fz.1 ≤ j) && decide (j < fz.2)) = false := by
                cases k with
                | own => simp only [ckR] at g6; subst g6; intro j _; simp
                | str => exact fun j hj => Calm.free g6 j hj
                | ro => exact absurd rfl hk
              have hnl := hn.len
              have hroom : lc.off + (off + sLen * size) + 0 + news.length ≤ xs.size := by
                have : (sLen + n) * size ≤ sCap * size := Nat.mul_le_mul_right _ hle
                rw [Nat.add_mul] at this
                rw [hnl, ln]; omega
              obtain ⟨w', xs', s1, s2, s3, s4, s5⟩ := run_storeCells P lc.blk (lc.off + (off + sLen * size)) e fz news 0 w xs g1 (fun v hv' => by
                  obtain ⟨j, hj⟩ := List.getElem?_of_mem hv'
                  have hj2 : j < news.length := (List.getElem?_eq_some_iff.1 hj).1
                  obtain ⟨u, u1, u2⟩ := hn.get j (new[j]'(by omega)) (by simp [List.getElem?_eq_getElem (show j < new.length by omega)])
                  rw [hj] at u1; cases u1
                  exact u2.one (sn _ (List.getElem_mem _)))
                hroom (fun j _ j2 => hfree j (by omega))
              have hle' : Sg.le σ (σ.ext nx ⟨lc.blk, lc.off + off, lc.size, lc.esz⟩) := Sg.le_ext (hR.fresh nx (Nat.le_refl _))
              refine ⟨_, _, _, rfl, σ.ext nx ⟨lc.blk, lc.off + off, lc.size, lc.esz⟩, .slice (some (lc.at off)) (sLen + n) sCap, w', hle', ?_, ?_, ?_⟩
              · unfold modelApp
                have ea : (lc.at off).add (sLen * size) = ⟨lc.blk, lc.off + (off + sLen * size), none⟩ := by simp only [Loc.at, add_at, Nat.add_assoc]
                rw [if_pos hle]
                simp only [Sem.run_bind, hself, Result.andThen_ok, ea, s1, Sem.run_pure]
              · simp only [VR]
                exact ⟨_, sCap, Sg.ext_same _ _ _, by first | (simp [Loc.at]; done) | (simp [Loc.at]; rfl), hle, by simp only [hesz]; omega⟩
              · refine hR.rename hg hlc (fun c e' => by simp only [ne_eq, AObj.cells.injEq, not_and]; intro _ _; exact hk) rfl s2 ?_
                simp only [OR]
                have hol : old.length = sLen * size := by
                  have h1 : (cs.drop off).length = cs.length - off := by simp
                  rw [p2, List.length_take, h1]
                  have : Nat.mul sLen size = sLen * size := rfl
                  omega
                refine ⟨xs', fz, s3, by rw [s4]; exact g2, ?_, fun i a hi => ?_, fun a ha => ?_, ?_, g7⟩
                · rw [s4, List.length_append, hol, ln]; omega
                · rw [s5]
                  by_cases ci : i < sLen * size
                  · rw [List.getElem?_append_left (by omega)] at hi
                    rw [if_neg (by omega)]
                    rw [p2, List.getElem?_take] at hi
                    split at hi
                    · rw [List.getElem?_drop] at hi
                      obtain ⟨v, v1, v2⟩ := g4 _ a hi
                      exact ⟨v, by rw [← v1]; congr 1; omega, v2.mono hle'⟩
                    · cases hi
                  · rw [List.getElem?_append_right (by omega)] at hi
                    have hi2 := (List.getElem?_eq_some_iff.1 hi).1
                    rw [if_pos (by omega)]
                    obtain ⟨v, v1, v2⟩ := hn.get _ a hi
                    exact ⟨v, by rw [← v1]; congr 1; omega, v2.mono hle'⟩
                · rw [List.mem_append] at ha
                  rcases ha with ha | ha
                  · exact g5 a (by rw [p2] at ha; exact List.mem_of_mem_drop (List.mem_of_mem_take ha))
                  · exact sn a ha
                · cases k with
                  | own => exact g6
                  | str => simp only [ckR, Calm] at g6 ⊢; rw [s4]; exact g6
                  | ro => trivial
            · -- a new block
              obtain ⟨olds, o1, o2, o3, o4⟩ := (hR.drew.dom b _ hg).elim fun l2 hl2 => by
                obtain ⟨y1, y2⟩ := hl2
                rw [hlc] at y1; cases y1
                exact y2.row hold
              obtain ⟨newCap, q1, q2, q3⟩ := grow (by omega) old olds (H.set b none) (hR.drop b) o2 o3 o4 o1
              refine ⟨_, _, _, rfl, σ.ext nx ⟨w.heap.size, 0, newCap * size, size⟩, _, _, Sg.le_ext (hR.fresh nx (Nat.le_refl _)), q2, ?_, ?_⟩
              · simp only [VR]
                exact ⟨_, newCap, Sg.ext_same _ _ _, by first | (simp [Loc.at]; done) | (simp [Loc.at]; rfl), q1, by simp⟩
              · cases k with
                | own => exact q3
                | str => exact own_str q3
                | ro => exact absurd rfl hk
          · cases h
      · cases h
    · cases h

end
end Go.SK

/- One operation, twelfth part: the other built-in functions; maps. -/
namespace Go.SK
open Go

section
variable {P : Program} {w0 : World} {σ : Sg} {nx : Nat} {H : Heap} {w : World} {E : Env} {ρ : Operand → Value} {o : Oper}

theorem appN_len (_hR : Rel P w0 σ nx H w) {x : AV} {v : Value} {n : Nat} (hv : VR σ x v) (h : lenS x = some n) : (Builtin.lenOf v).run P w = .ok n w := by
  unfold lenS at h
  split at h
  · cases h; simp only [VR] at hv; subst hv; rfl
  · rename_i b off l c
    cases h
    obtain ⟨a, n', c', rfl⟩ := slc_shape hv
    have : n' = n := by cases c <;> simp only [VR] at hv <;> (obtain ⟨lc, hv⟩ := hv) <;> first | (obtain ⟨_, e, _⟩ := hv; cases e; rfl) | (obtain ⟨_, _, e, _⟩ := hv; cases e; rfl)
    subst this; rfl
  · rename_i s
    cases h
    simp only [VR] at hv
    obtain ⟨t, rfl, t2⟩ := hv
    have : len s = t.size := by rw [len_eq, ← t2, List.length_map, Array.length_toList]; rfl
    rw [this]; rfl
  · cases h

theorem appendOp_ok (hR : Rel P w0 σ nx H w) {ts : List TypeId} {t ty : TypeId} {s x : AV} {vs vx : Value} {r : OpR} (hs : VR σ s vs) (hx : VR σ x vx) (h : appendOp P H nx t ts.head? s x = some r) :
    OpS P w0 σ H nx w r (Builtin.append_ (t :: ts).toArray ty #[vs, vx]) := by
  unfold appendOp at h
  split at h
  · rename_i e ht
    split at h
    · rename_i size bytes z isInt hsz hby hz hI
      split at h
      · rename_i n hzl hn
        rw [fnat_eq] at h
        split at h
        · rename_i new hsm hnew
          obtain ⟨i, v, z1, z2, z3, z4⟩ := zeroC_VR σ hz
          have hib : i.bytes = bytes := by obtain ⟨j, j1, j2⟩ := run_bytes hby; rw [z1] at j1; cases j1; exact j2
          have hzl' := Nat.eq_of_beq_eq_true hzl
          rw [len_eq] at hzl'
          have hvs : v.cells.size = size := by have := z3.len; simp at this; omega
          unfold small at hsm
          rw [Bool.and_eq_true] at hsm
          have m1 : n * i.bytes ≤ 1073741824 := by rw [hib]; exact Nat.le_of_ble_eq_true hsm.1
          have m2 : n ≤ 1073741824 := Nat.le_of_ble_eq_true hsm.2
          have a0 : ((t :: ts).toArray : Array TypeId)[0]? = some t := rfl
          have a1 : ((t :: ts).toArray : Array TypeId)[1]? = ts.head? := by cases ts <;> rfl
          have hh := h
          obtain ⟨base, sLen, sCap, rfl⟩ : ∃ base sLen sCap, vs = .slice base sLen sCap := by
            unfold appTo at h
            cases s <;> first
              | (simp only [VR] at hs; subst hs; exact ⟨_, _, _, rfl⟩)
              | (obtain ⟨a, n', c', rfl⟩ := slc_shape hs; exact ⟨_, _, _, rfl⟩)
              | (split at h <;> simp at h)
          have hneed : sCap < sLen + n → (sLen + n) * i.bytes ≤ 1073741824 ∧ sLen + n ≤ 1073741824 := by
            intro hlt
            unfold appTo at h
            split at h
            · rename_i h0
              have hn0 := Nat.eq_of_beq_eq_true h0
              subst hn0
              split at h
              · simp only [VR] at hs; cases hs; omega
              · rename_i b off l c
                have hle : sLen ≤ sCap := by
                  have : ∃ lc, σ b = some lc := by cases c <;> simp only [VR] at hs <;> (obtain ⟨lc, hs⟩ := hs) <;> first | exact ⟨lc, hs.1⟩ | (obtain ⟨_, h1, _⟩ := hs; exact ⟨lc, h1⟩)
                  obtain ⟨lc, hlc⟩ := this
                  obtain ⟨c', h1, h2, _⟩ := slc_at hlc hs
                  cases h1
                  exact h2
                omega
              · cases h
            · split at h
              · simp only [VR] at hs; cases hs; rw [Nat.zero_add]; exact ⟨m1, m2⟩
              · rename_i b off l c
                rw [fnat_eq] at h
                split at h
                · rename_i hs2
                  have : sLen = l := by
                    obtain ⟨a, n', c', e⟩ := slc_shape hs
                    cases c <;> simp only [VR] at hs <;> (obtain ⟨lc, hs⟩ := hs) <;> first | (obtain ⟨_, e, _⟩ := hs; cases e; rfl) | (obtain ⟨_, _, e, _⟩ := hs; cases e; rfl)
                  subst this
                  unfold small at hs2
                  rw [Bool.and_eq_true] at hs2
                  rw [hib]
                  exact ⟨Nat.le_of_ble_eq_true hs2.1, Nat.le_of_ble_eq_true hs2.2⟩
                · cases h
              · cases h
          cases isInt with
          | false =>
            have hl := appN_len (w := w) hR hx hn
            unfold OpS
            rw [run_append_len a0 a1 ht hsz z1 z2 hI hl hneed]
            obtain ⟨news, n1, n2, n3, n4⟩ := cellsOfS_ok' hR hx hnew
            exact appTo_ok hR hsz hs n1 n2 n3 n4 hvs hh
          | true =>
            have hn : asNat x = some n := hn
            unfold asNat at hn
            split at hn
            · rename_i k m
              cases hn
              simp only [VR] at hx
              subst hx
              unfold OpS
              cases hts : ts.head? with
              | none => rw [hts] at hI; simp [isIntT] at hI
              | some t2 =>
                have hI2 : ∃ k2, P.underlying t2 = some (.int k2) := by
                  rw [hts] at hI
                  simp only [isIntT] at hI
                  cases hu : P.underlying t2 with
                  | none => rw [hu] at hI; cases hI
                  | some d => rw [hu] at hI; cases d <;> simp at hI; exact ⟨_, rfl⟩
                obtain ⟨k2, hI2⟩ := hI2
                rw [run_append_make a0 (a1.trans hts) ht hsz z1 z2 hI2 m1 m2 hneed hvs]
                unfold appC at hnew
                cases hnew
                refine appTo_ok (news := (Builtin.zeroCells v.cells n).toList) hR hsz hs (fun w' _ => by simp) (reps_VRs z3 n) (reps_sc z4 n) (by rw [reps_eq, hzl']) hvs hh
            · cases hn
        · cases h
      · cases h
    · cases h
  · cases h

end
end Go.SK

/- One operation, thirteenth part: len, cap, copy, clear, min, max, parts of complex numbers. -/
namespace Go.SK
open Go

section
variable {P : Program} {w0 : World} {σ : Sg} {nx : Nat} {H : Heap} {w : World} {E : Env} {ρ : Operand → Value} {o : Oper}

theorem OpS.same (hR : Rel P w0 σ nx H w) {v : AV} {v' : Value} {x : Sem Value} (hr : x.run P w = .ok v' w) (hv : VR σ v v') : OpS P w0 σ H nx w (.val v H nx) x :=
  ⟨v, H, nx, rfl, σ, v', w, Sg.le_refl _, hr, hv, hR⟩

theorem EsR.len {σ : Sg} : ∀ {es : List (AV × AV)} {ds : List MapEntry}, EsR σ es ds → ds.length = es.length
  | [], _, h => by simp only [EsR] at h; subst h; rfl
  | (_, _) :: _, _, h => by simp only [EsR] at h; obtain ⟨e, r, rfl, _, _, h3⟩ := h; simp [EsR.len h3]

/-- what a map reads as -/
theorem getMap_ok (hR : Rel P w0 σ nx H w) {x : AV} {v : Value} {es : List (AV × AV)} (hv : VR σ x v) (h : getMap H x = some es) :
    (v = .map none ∧ es = []) ∨ ∃ r l ces clock ds, x = .mp (some r) ∧ σ r = some l ∧ v = .map (some l.blk) ∧ H.get r = some (.map es) ∧ w.heap[l.blk]? = some (.map ces clock) ∧ ces.toList.Perm ds ∧ EsR σ es ds ∧ keysOk es := by
  unfold getMap at h
  split at h
  · cases h; simp only [VR] at hv; exact .inl ⟨hv, rfl⟩
  · rename_i r
    split at h
    · rename_i es' hg
      cases h
      simp only [VR] at hv
      obtain ⟨l, l1, l2⟩ := hv
      obtain ⟨l', l3, hO⟩ := hR.dom r _ hg
      rw [l1] at l3; cases l3
      simp only [OR] at hO
      obtain ⟨ces, clock, ds, h1, h2, h3, h4⟩ := hO
      exact .inr ⟨r, l, ces, clock, ds, rfl, l1, l2, hg, h1, h2, h3, h4⟩
    · cases h
  · cases h

theorem len_ok (hR : Rel P w0 σ nx H w) {t ty : TypeId} {ts : List TypeId} {x : AV} {v : Value} {r : OpR} (hv : VR σ x v) (h : builtinOp P H nx .len (t :: ts) [x] = some r) :
    OpS P w0 σ H nx w r (Builtin.len_ (t :: ts).toArray ty #[v]) := by
  have a0 : ((t :: ts).toArray : Array TypeId)[0]? = some t := rfl
  have b0 : (#[v] : Array Value)[0]? = some v := rfl
  simp only [builtinOp] at h
  have fin : ∀ n : Nat, (Builtin.len_ (t :: ts).toArray ty #[v]).run P w = .ok (goInt n) w → OpS P w0 σ H nx w (.val (goI n) H nx) (Builtin.len_ (t :: ts).toArray ty #[v]) :=
    fun n hn => OpS.same hR hn (by simp only [goI, VR, goInt]; rfl)
  cases ht : P.underlying t with
  | none => rw [ht] at h; simp at h
  | some d =>
    rw [ht] at h
    cases d with
    | string =>
      cases x <;> simp only at h <;> try (cases h; done)
      rename_i s
      rw [fnat_eq] at h
      cases h
      simp only [VR] at hv
      obtain ⟨tt, rfl, t2⟩ := hv
      have : len s = tt.size := by rw [len_eq, ← t2, List.length_map, Array.length_toList]; rfl
      rw [this]; exact fin tt.size (by simp [Builtin.len_, run_und ht])
    | array n e => simp only at h; cases h; exact fin n (by simp [Builtin.len_, run_und ht])
    | slice e =>
      cases x <;> simp only at h <;> try (cases h; done)
      · cases h
        simp only [VR] at hv; subst hv
        exact fin 0 (by simp [Builtin.len_, run_und ht])
      · rename_i b off n c
        cases h
        obtain ⟨a, n', c', rfl⟩ := slc_shape hv
        have : n' = n := by cases c <;> simp only [VR] at hv <;> (obtain ⟨lc, hv⟩ := hv) <;> first | (obtain ⟨_, e, _⟩ := hv; cases e; rfl) | (obtain ⟨_, _, e, _⟩ := hv; cases e; rfl)
        subst this
        exact fin n' (by simp [Builtin.len_, run_und ht])
    | map k e =>
      simp only at h
      split at h
      · rename_i es hes
        rw [fnat_eq] at h
        cases h
        rcases getMap_ok hR hv hes with ⟨rfl, rfl⟩ | ⟨r, l, ces, clock, ds, rfl, l1, rfl, hg, h1, h2, h3, h4⟩
        · exact fin 0 (by simp [Builtin.len_, run_und ht])
        · have hn : len es = ces.size := by rw [len_eq, ← h3.len, ← h2.length_eq, Array.length_toList]
          rw [hn]; exact fin ces.size (by simp [Builtin.len_, run_und ht, getObj, Sem.run, h1])
      · cases h
    | pointer arr =>
      simp only at h
      split at h
      · rename_i n e ha
        cases h
        exact fin n (by simp [Builtin.len_, run_und ht, run_und ha])
      · cases h
    | _ => simp at h

theorem cap_ok (hR : Rel P w0 σ nx H w) {t ty : TypeId} {ts : List TypeId} {x : AV} {v : Value} {r : OpR} (hv : VR σ x v) (h : builtinOp P H nx .cap (t :: ts) [x] = some r) :
    OpS P w0 σ H nx w r (Builtin.cap_ (t :: ts).toArray ty #[v]) := by
  have a0 : ((t :: ts).toArray : Array TypeId)[0]? = some t := rfl
  have b0 : (#[v] : Array Value)[0]? = some v := rfl
  simp only [builtinOp] at h
  have fin : ∀ n : Nat, (Builtin.cap_ (t :: ts).toArray ty #[v]).run P w = .ok (goInt n) w → OpS P w0 σ H nx w (.val (goI n) H nx) (Builtin.cap_ (t :: ts).toArray ty #[v]) :=
    fun n hn => OpS.same hR hn (by simp only [goI, VR, goInt]; rfl)
  cases ht : P.underlying t with
  | none => rw [ht] at h; simp at h
  | some d =>
    rw [ht] at h
    cases d with
    | array n e => simp only at h; cases h; exact fin n (by simp [Builtin.cap_, run_und ht])
    | slice e =>
      cases x <;> (try simp only at h) <;> try (cases h; done)
      · cases h
        simp only [VR] at hv; subst hv
        exact fin 0 (by simp [Builtin.cap_, run_und ht])
      · rename_i b off n c
        cases c with
        | none => simp at h
        | some c =>
        cases h
        simp only [VR] at hv
        obtain ⟨l, l1, rfl, l3⟩ := hv
        exact fin c (by simp [Builtin.cap_, run_und ht])
    | _ => simp at h

theorem minN_eq (a b : Nat) : minN a b = Nat.min a b := by
  cases hb : Nat.ble a b with
  | true => have := Nat.le_of_ble_eq_true hb; simp only [minN, hb]; exact (Nat.min_eq_left this).symm
  | false =>
    have : ¬ a ≤ b := fun hc => by rw [Nat.ble_eq_true_of_le hc] at hb; cases hb
    simp only [minN, hb]; exact (Nat.min_eq_right (by omega)).symm

theorem copy_ok (hR : Rel P w0 σ nx H w) {t ty : TypeId} {ts : List TypeId} {d s : AV} {vd vs : Value} {r : OpR} (hd : VR σ d vd) (hs : VR σ s vs) (h : builtinOp P H nx .copy (t :: ts) [d, s] = some r) :
    OpS P w0 σ H nx w r (Builtin.copy_ (t :: ts).toArray ty #[vd, vs]) := by
  have a0 : ((t :: ts).toArray : Array TypeId)[0]? = some t := rfl
  have b0 : (#[vd, vs] : Array Value)[0]? = some vd := rfl
  have b1 : (#[vd, vs] : Array Value)[1]? = some vs := rfl
  simp only [builtinOp] at h
  split at h
  · rename_i e ht
    split at h
    · rename_i size ld ls hsz hld hls
      split at h
      · cases h
      · rename_i cs hcs
        rw [minN_eq] at hcs h
        obtain ⟨us, u1, u2, u3, u4⟩ := cellsOfS_ok hR hs hcs
        have hl := appN_len (w := w) hR hs hls
        have run : ∀ base c, vd = .slice base ld c → (Builtin.copy_ (t :: ts).toArray ty #[vd, vs]).run P w = (do
            if let some a := base then storeCells a us
            pure (goInt (Nat.min ls ld)) : Sem Value).run P w := by
          intro base c hvd
          subst hvd
          simp only [Builtin.copy_, a0, b0, b1, Sem.run_bind, run_und ht, Result.andThen_ok, hl, run_size hsz, u1]
          cases base <;> rfl
        split at h
        · cases h
          simp only [VR] at hd; subst hd
          simp only [lenS] at hld; cases hld
          exact OpS.same hR (v' := goInt (Nat.min ls 0)) (by rw [run none 0 rfl]; rfl) (by simp only [goI, VR, goInt]; rfl)
        · rename_i b off l c
          simp only [lenS] at hld; cases hld
          obtain ⟨lc, hlc⟩ : ∃ lc, σ b = some lc := by cases c <;> simp only [VR] at hd <;> (obtain ⟨lc, hd⟩ := hd) <;> first | exact ⟨lc, hd.1⟩ | (obtain ⟨_, h1, _⟩ := hd; exact ⟨lc, h1⟩)
          obtain ⟨c', h1, _⟩ := slc_at hlc hd
          split at h
          · rename_i hz
            cases h
            have hz' := Nat.eq_of_beq_eq_true hz
            have : us = [] := List.eq_nil_of_length_eq_zero (by rw [u2.len, u4, hz']; simp)
            subst this
            exact OpS.same hR (v' := goInt (Nat.min ls ld)) (by rw [run _ c' h1]; simp [storeCells]) (by rw [hz']; simp only [goI, VR, goInt]; rfl)
          · split at h
            · rename_i H' hH'
              cases h
              obtain ⟨w', s1, s2⟩ := storeCs_ok hR hlc hH' u2 u3
              refine ⟨_, _, _, rfl, σ, goInt (Nat.min ls ld), w', Sg.le_refl _, ?_, by simp only [goI, VR, goInt]; rfl, s2⟩
              rw [run _ c' h1]
              simp only [Sem.run_bind, s1, Result.andThen_ok, Sem.run_pure]
            · cases h
        · cases h
    · cases h
  · cases h

end
end Go.SK

