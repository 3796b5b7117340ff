/- Operations of the evaluator do what those of the model do, first part. Conditions: none. -/
import Derived.Test.YtlnhefoegllpmaaGreatDoorSdA
import Derived.Laws.Strings
import Derived.Laws.StructEq
import Derived.Laws.BytesString
/- One operation, fourth part: whole numbers, bools, strings. -/
namespace Go.SK
open Go

theorem fint_eq {α : Type} (n : Int) (f : Int → Option α) : fint n f = f n := by
  cases n with
  | ofNat m => cases m <;> rfl
  | negSucc m => cases m <;> rfl
theorem fnat_eq {α : Type} (n : Nat) (f : Nat → Option α) : fnat n f = f n := by cases n <;> rfl

theorem wrp_eq (k : IntKind) (n : Int) : wrp k n = k.wrap n := by
  cases n with
  | negSucc m => rfl
  | ofNat m =>
    cases h : Nat.ble (half k) m with
    | true => simp only [wrp, h]
    | false =>
      have h' : m < half k := by
        rcases Nat.lt_or_ge m (half k) with c | c
        · exact c
        · rw [Nat.ble_eq_true_of_le c] at h; cases h
      simp only [wrp, h]
      cases k <;> simp only [half] at h' <;> simp [IntKind.wrap, IntKind.bits, IntKind.signed] <;> omega

theorem iadd_eq (a b : Int) : iadd a b = a + b := by cases a <;> cases b <;> rfl
theorem isub_eq (a b : Int) : isub a b = a - b := by
  cases a with
  | negSucc a => cases b <;> rfl
  | ofNat a => cases b with
    | negSucc b => rfl
    | ofNat b =>
      cases h : Nat.ble b a with
      | false => simp only [isub, h]; rfl
      | true =>
        have h' := Nat.le_of_ble_eq_true h
        simp only [isub, h]
        show ((a - b : Nat) : Int) = (a : Int) - (b : Int)
        omega
theorem imul_eq (a b : Int) : imul a b = a * b := by cases a <;> cases b <;> rfl
theorem iquo_eq (a b : Int) : iquo a b = a.tdiv b := by cases a <;> cases b <;> rfl
theorem irem_eq (a b : Int) : irem a b = a.tmod b := by cases a <;> cases b <;> rfl
theorem ieq_eq (a b : Int) : ieq a b = (a == b) := by
  cases a with
  | ofNat a => cases b with
    | ofNat b => show Nat.beq a b = _; rw [Bool.eq_iff_iff]; simp; constructor <;> intro h <;> omega
    | negSucc b => show false = _; symm; rw [beq_eq_false_iff_ne]; intro h; cases h
  | negSucc a => cases b with
    | ofNat b => show false = _; symm; rw [beq_eq_false_iff_ne]; intro h; cases h
    | negSucc b => show Nat.beq a b = _; rw [Bool.eq_iff_iff]; simp
theorem ilt_eq (a b : Int) : ilt a b = decide (a < b) := by
  cases a with
  | ofNat a => cases b with
    | ofNat b => show Nat.blt a b = _; rw [Bool.eq_iff_iff]; simp
    | negSucc b => show false = _; symm; rw [decide_eq_false_iff_not]; intro h; have : (0 : Int) ≤ Int.ofNat a := Int.natCast_nonneg a; omega
  | negSucc a => cases b with
    | ofNat b => show true = _; symm; rw [decide_eq_true_iff]; have : (0 : Int) ≤ Int.ofNat b := Int.natCast_nonneg b; omega
    | negSucc b => show Nat.blt b a = _; rw [Bool.eq_iff_iff, decide_eq_true_iff]; rw [Nat.blt_eq]; omega
theorem keq_eq (a b : IntKind) : keq a b = decide (a = b) := by cases a <;> cases b <;> rfl
theorem keq_true {a b : IntKind} (h : keq a b = true) : a = b := by rw [keq_eq] at h; simpa using h
theorem rint_eq (k : IntKind) (n : Int) : rint k n = some (.int k (k.wrap n)) := by simp [rint, fint_eq, wrp_eq]

theorem bitsPow_eq (k : IntKind) : bitsPow k = 2 ^ k.bits := by cases k <;> rfl

theorem bitOp_ok {op : BinOp} {k : IntKind} {a b : Int} {v : AV} (hop : op = .and ∨ op = .or ∨ op = .xor ∨ op = .andNot) (h : bitOp op k a b = some v) (P : Program) (w : World) :
    ∃ n, v = .int k n ∧ (Op.intBits op k a b).run P w = .ok (.int k n) w := by
  have slow : ∀ {a b}, bitOp.bitSlow op k a b = some v → ∃ n, v = .int k n ∧ (Op.intBits op k a b).run P w = .ok (.int k n) w := by
    intro a b h
    unfold bitOp.bitSlow at h
    rcases hop with rfl | rfl | rfl | rfl <;> simp only [Option.some.injEq] at h <;> subst h <;> exact ⟨_, rfl, rfl⟩
  unfold bitOp at h
  split at h
  · rename_i a b
    split at h
    · cases h
    · rename_i hlt
      have ha : a < 2 ^ k.bits := by
        rw [← bitsPow_eq]
        rcases Nat.lt_or_ge a (bitsPow k) with c | c
        · exact c
        · rw [Nat.ble_eq_true_of_le c] at hlt; simp at hlt
      have hb : b < 2 ^ k.bits := by
        rw [← bitsPow_eq]
        rcases Nat.lt_or_ge b (bitsPow k) with c | c
        · exact c
        · rw [Nat.ble_eq_true_of_le c] at hlt; simp at hlt
      have ea : (BitVec.ofInt k.bits (Int.ofNat a)).toNat = a := by
        show (BitVec.ofInt k.bits (a : Int)).toNat = a
        rw [BitVec.ofInt_natCast, BitVec.toNat_ofNat, Nat.mod_eq_of_lt ha]
      have eb : (BitVec.ofInt k.bits (Int.ofNat b)).toNat = b := by
        show (BitVec.ofInt k.bits (b : Int)).toNat = b
        rw [BitVec.ofInt_natCast, BitVec.toNat_ofNat, Nat.mod_eq_of_lt hb]
      have fin : ∀ (r : BitVec k.bits) (x : Nat), r.toNat = x → rint k (.ofNat x) = some v → ∃ n, v = .int k n ∧ (pure (.int k (k.wrap r.toNat)) : Sem Value).run P w = .ok (.int k n) w := by
        intro r x e hx
        rw [rint_eq] at hx
        cases hx
        exact ⟨_, rfl, by rw [e]; rfl⟩
      rcases hop with rfl | rfl | rfl | rfl <;> simp only [natBits] at h
      · exact fin (BitVec.ofInt k.bits (Int.ofNat a) &&& BitVec.ofInt k.bits (Int.ofNat b)) _ (by rw [BitVec.toNat_and, ea, eb]; rfl) h
      · exact fin (BitVec.ofInt k.bits (Int.ofNat a) ||| BitVec.ofInt k.bits (Int.ofNat b)) _ (by rw [BitVec.toNat_or, ea, eb]; rfl) h
      · exact fin (BitVec.ofInt k.bits (Int.ofNat a) ^^^ BitVec.ofInt k.bits (Int.ofNat b)) _ (by rw [BitVec.toNat_xor, ea, eb]; rfl) h
      · refine fin (BitVec.ofInt k.bits (Int.ofNat a) &&& ~~~ BitVec.ofInt k.bits (Int.ofNat b)) _ ?_ h
        rw [BitVec.toNat_and, ea, ← BitVec.xor_allOnes, BitVec.toNat_xor, eb, BitVec.toNat_allOnes, bitsPow_eq]; rfl
  · exact slow h

/-- whole numbers: what the evaluator reckons is what the model reckons -/
theorem intOp_ok {op : BinOp} {k : IntKind} {a b : Int} {v : AV} (h : intOp op k a b = some v) (P : Program) (w : World) :
    ∃ u, (∀ σ, VR σ v u) ∧ (match op with
      | .add | .sub | .mul => Op.intArith op k a b
      | .quo | .rem => Op.intDiv op k a b
      | .and | .or | .xor | .andNot => Op.intBits op k a b
      | _ => Op.intCmp op a b).run P w = .ok u w := by
  have bits : (op = .and ∨ op = .or ∨ op = .xor ∨ op = .andNot) → bitOp op k a b = some v → ∃ u, (∀ σ, VR σ v u) ∧ (Op.intBits op k a b).run P w = .ok u w := fun ho hh => by
    obtain ⟨n, rfl, h2⟩ := bitOp_ok ho hh P w
    exact ⟨_, fun σ => by simp [VR], h2⟩
  cases op <;> simp only [intOp] at h
  case add => rw [rint_eq, iadd_eq] at h; cases h; exact ⟨.int k (k.wrap (a + b)), fun σ => by simp [VR], rfl⟩
  case sub => rw [rint_eq, isub_eq] at h; cases h; exact ⟨.int k (k.wrap (a - b)), fun σ => by simp [VR], rfl⟩
  case mul => rw [rint_eq, imul_eq] at h; cases h; exact ⟨.int k (k.wrap (a * b)), fun σ => by simp [VR], rfl⟩
  case quo =>
    split at h
    · cases h
    · rename_i hb
      rw [rint_eq, iquo_eq] at h; cases h
      have hb' : b ≠ 0 := by rw [ieq_eq] at hb; simpa using hb
      exact ⟨_, fun σ => by simp [VR]; rfl, by simp [Op.intDiv, hb']⟩
  case rem =>
    split at h
    · cases h
    · rename_i hb
      rw [fint_eq, irem_eq] at h; cases h
      have hb' : b ≠ 0 := by rw [ieq_eq] at hb; simpa using hb
      exact ⟨_, fun σ => by simp [VR]; rfl, by simp [Op.intDiv, hb']⟩
  case and => exact bits (by simp) h
  case or => exact bits (by simp) h
  case xor => exact bits (by simp) h
  case andNot => exact bits (by simp) h
  case eql => cases h; exact ⟨_, fun σ => by simp [VR]; rfl, by simp [Op.intCmp, ieq_eq]⟩
  case neq => cases h; exact ⟨_, fun σ => by simp [VR]; rfl, by simp [Op.intCmp, ieq_eq, bne]⟩
  case lss => cases h; exact ⟨_, fun σ => by simp [VR]; rfl, by simp [Op.intCmp, ilt_eq]⟩
  case leq => cases h; exact ⟨.bool (a ≤ b), fun σ => by simp only [VR, ilt_eq]; congr 1; rw [← decide_not, decide_eq_decide]; omega, rfl⟩
  case gtr => cases h; exact ⟨_, fun σ => by simp [VR]; rfl, by simp [Op.intCmp, ilt_eq]⟩
  case geq => cases h; exact ⟨.bool (a ≥ b), fun σ => by simp only [VR, ilt_eq]; congr 1; rw [← decide_not, decide_eq_decide]; omega, rfl⟩
  all_goals cases h

theorem shAmt_eq (k : IntKind) (y : Nat) : shAmt k y = min y k.bits := by
  cases hb : Nat.ble k.bits y with
  | true => have := Nat.le_of_ble_eq_true hb; simp only [shAmt, hb]; omega
  | false =>
    have : y < k.bits := by
      rcases Nat.lt_or_ge y k.bits with c | c
      · exact c
      · rw [Nat.ble_eq_true_of_le c] at hb; cases hb
    simp only [shAmt, hb]; omega

theorem shiftOp_ok {op : BinOp} {k yk : IntKind} {a b : Int} {v : AV} (h : shiftOp op k a b = some v) (P : Program) (w : World) :
    ∃ u, (∀ σ, VR σ v u) ∧ (Op.shift op k a yk b).run P w = .ok u w := by
  unfold shiftOp at h
  split at h
  · cases h
  · rename_i y
    rw [shAmt_eq] at h
    have h0 : ¬ (Int.ofNat y < 0) := by simp
    have ep : ∀ n : Nat, (Int.ofNat (Nat.pow 2 n)) = (2 ^ n : Int) := fun n => by
      show ((2 ^ n : Nat) : Int) = _
      simp
    split at h
    · rw [rint_eq, imul_eq, ep] at h
      cases h
      refine ⟨_, fun σ => by simp only [VR]; rfl, ?_⟩
      unfold Op.shift
      rw [if_neg h0]; rfl
    · split at h
      · rename_i x
        rw [fint_eq] at h
        cases h
        refine ⟨_, fun σ => by simp only [VR]; rfl, ?_⟩
        unfold Op.shift
        rw [if_neg h0]
        simp only [Sem.run_pure]
        congr 2
        show Int.fdiv (Int.ofNat x) (2 ^ (min (Int.ofNat y).toNat k.bits)) = _
        have : (Int.ofNat y).toNat = y := rfl
        rw [this, ← ep]; exact (Int.ofNat_fdiv _ _).symm
      · cases h
        refine ⟨_, fun σ => by simp only [VR]; rfl, ?_⟩
        unfold Op.shift
        rw [if_neg h0]; rfl
    · cases h

theorem leq_map : ∀ (x y : List UInt8), leq (x.map UInt8.toNat) (y.map UInt8.toNat) = (x == y)
  | [], [] => rfl
  | [], _ :: _ => rfl
  | _ :: _, [] => rfl
  | a :: x, b :: y => by
    simp only [List.map_cons, leq, leq_map x y, List.cons_beq_cons]
    congr 1
    rw [Bool.eq_iff_iff]; simp [Nat.beq_eq, UInt8.toNat_inj]
theorem llt_map : ∀ (x y : List UInt8), llt (x.map UInt8.toNat) (y.map UInt8.toNat) = Op.bytesLess x y
  | [], [] => rfl
  | [], _ :: _ => rfl
  | _ :: _, [] => rfl
  | a :: x, b :: y => by
    simp only [List.map_cons, llt, llt_map x y, Op.bytesLess]
    congr 1
    · rw [Bool.eq_iff_iff]; simp [UInt8.lt_iff_toNat_lt]
    · congr 1; rw [Bool.eq_iff_iff]; simp [Nat.beq_eq, UInt8.toNat_inj]

theorem strOp_ok {op : BinOp} {a b : List Nat} {v : AV} (h : strOp op a b = some v) (P : Program) (w : World) {x y : ByteArray} (hx : x.data.toList.map UInt8.toNat = a) (hy : y.data.toList.map UInt8.toNat = b) :
    ∃ u, (∀ σ, VR σ v u) ∧ (Op.stringOp op x y).run P w = .ok u w := by
  have e1 : leq a b = (x.toList == y.toList) := by rw [← hx, ← hy, leq_map, ByteArray.toList_eq, ByteArray.toList_eq]
  have e2 : llt a b = Op.bytesLess x.toList y.toList := by rw [← hx, ← hy, llt_map, ByteArray.toList_eq, ByteArray.toList_eq]
  have e3 : a.length = x.size := by rw [← hx, List.length_map, Array.length_toList]; rfl
  have e4 : b.length = y.size := by rw [← hy, List.length_map, Array.length_toList]; rfl
  cases op <;> simp only [strOp] at h
  case add =>
    split at h
    · rename_i hle
      cases h
      have hle' := Nat.le_of_ble_eq_true hle
      have hle2 : x.size + y.size ≤ 9223372036854775807 := by rw [← e3, ← e4]; exact hle'
      refine ⟨.string (x ++ y), fun σ => by simp only [VR]; exact ⟨_, rfl, by simp [ByteArray.data_append, hx, hy]⟩, ?_⟩
      unfold Op.stringOp
      simp only
      rw [if_neg]
      · rfl
      · simp [IntKind.max, IntKind.bits, IntKind.signed]; omega
    · cases h
  all_goals first
    | (cases h; done)
    | (cases h; exact ⟨_, fun σ => by simp only [VR]; rfl, by simp [Op.stringOp, e1, e2]⟩)

end Go.SK

/- One operation, fifth part: equality. -/
namespace Go.SK
open Go

section
variable {P : Program} {w0 : World} {σ : Sg} {nx : Nat} {H : Heap} {w : World}

theorem live_ok (hR : Rel P w0 σ nx H w) {b o : Nat} {l : Loc} (hl : σ b = some l) (h : live H b o = true) :
    ∃ cs e xs, H.get b = some (.cells cs e .own) ∧ w.heap[l.blk]? = some (.cells xs e (0, 0)) ∧ 0 < xs.size := by
  unfold live at h
  split at h
  · rename_i cs e k hg
    split at h
    · rename_i a ha
      obtain ⟨l', l1, hO⟩ := hR.dom b _ hg
      rw [hl] at l1; cases l1
      simp only [OR] at hO
      obtain ⟨xs, fz, g1, g2, g3, g4, g5, g6, g7⟩ := hO
      simp only [ckR] at g6
      subst g6
      rw [nth_eq] at ha
      have := (List.getElem?_eq_some_iff.1 ha).1
      exact ⟨cs, e, xs, hg, g1, by omega⟩
    · cases h
  · cases h

theorem run_sameAddr_other {a b : Addr} (hab : a.block ≠ b.block) {xs ys : Array Value} {e f : TypeId}
    (ha : w.heap[a.block]? = some (.cells xs e (0, 0))) (hb : w.heap[b.block]? = some (.cells ys f (0, 0))) : (sameAddr a b).run P w = .ok false w := by
  have fa : ∀ o s, w.frozen? ⟨a.block, o, s⟩ = false := fun o s => by simp [World.frozen?, ha]
  have fb : ∀ o s, w.frozen? ⟨b.block, o, s⟩ = false := fun o s => by simp [World.frozen?, hb]
  have fa' : w.frozen? a = false := fa a.off a.spot
  have fb' : w.frozen? b = false := fb b.off b.spot
  have sa : w.shape? a.block = some (e, xs.size) := by simp [World.shape?, ha]
  have sb : w.shape? b.block = some (f, ys.size) := by simp [World.shape?, hb]
  have hne : (a.block == b.block) = false := by simpa using hab
  simp [sameAddr, hne, fa', fb', noView, viewAt, sa, sb, mayBeOne, stringish, fa, fb]

theorem slc_shape {b o n : Nat} {c : Option Nat} {v : Value} (h : VR σ (.slc b o n c) v) : ∃ a n' c', v = .slice (some a) n' c' := by
  cases c <;> simp only [VR] at h <;> (obtain ⟨l, h⟩ := h) <;> first | (obtain ⟨_, rfl, _⟩ := h; exact ⟨_, _, _, rfl⟩) | (obtain ⟨_, _, rfl, _⟩ := h; exact ⟨_, _, _, rfl⟩)

theorem eqFields_ok {d m : Nat} (ih : ∀ (t : TypeId) (x y : AV) (r : Bool) (u v : Value), eqv P (live H) d t x y = some r → VR σ x u → VR σ y v → (Op.equalIn m t u v).run P w = .ok r w)
    {xs ys : List AV} {us vs : Array Value} (hx : VRs σ xs us.toList) (hy : VRs σ ys vs.toList) (sx : ∀ a ∈ xs, sc a) (sy : ∀ a ∈ ys, sc a) : ∀ (fs : List Field) (r : Bool),
    eqv.eqFields P (eqv P (live H) d) fs xs ys = some r → (Op.eqFields m us vs fs).run P w = .ok r w
  | [], r, h => by simp [eqv.eqFields] at h; subst h; rfl
  | f :: fs, r, h => by
    unfold eqv.eqFields at h
    split at h
    · rename_i hn
      have hn' : f.name = "_" := by simpa using hn
      simp only [Op.eqFields, hn', ne_eq, not_true_eq_false, if_false]
      exact eqFields_ok ih hx hy sx sy fs r h
    · rename_i hn
      have hn' : f.name ≠ "_" := by simpa using hn
      split at h
      · rename_i a b ha hb
        obtain ⟨u, u1, u2⟩ := partAV_ok (w := w) hx sx ha
        obtain ⟨v, v1, v2⟩ := partAV_ok (w := w) hy sy hb
        simp only [Op.eqFields, hn', ne_eq, not_false_eq_true, if_true, Sem.run_bind, u1, v1, Result.andThen_ok]
        split at h
        · rename_i he
          rw [ih _ _ _ _ _ _ he u2 v2]
          simp only [Result.andThen_ok, Bool.not_true, Bool.false_eq_true, if_false]
          exact eqFields_ok ih hx hy sx sy fs r h
        · rename_i o hne
          cases r with
          | true => exact absurd h hne
          | false =>
            rw [ih _ _ _ _ _ _ h u2 v2]
            simp
      · cases h

/-- the model's rounds over an array's elements -/
def eqRounds (m : Nat) (elem : TypeId) (n : Nat) (us vs : Array Value) : List Nat → Sem Bool
  | [] => pure true
  | i :: l => do
    let a ← Go.part elem us (i * n)
    let b ← Go.part elem vs (i * n)
    let r ← Op.equalIn m elem a b
    if (!r) = true then pure false else eqRounds m elem n us vs l

theorem run_equalIn_array (m : Nat) (t elem : TypeId) (len n : Nat) (us vs : Array Value) (ht : P.underlying t = some (.array len elem)) (hn : sizeT P elem = some n) :
    (Op.equalIn (m + 1) t (.agg us) (.agg vs)).run P w = (eqRounds m elem n us vs (List.range' 0 len)).run P w := by
  simp only [Op.equalIn, Sem.run_bind, run_und ht, Result.andThen_ok, run_size hn]
  simp only [Std.Legacy.Range.forIn_eq_forIn_range']
  have e : Std.Legacy.Range.size [:len] = len := by simp [Std.Legacy.Range.size]
  rw [e]
  generalize List.range' 0 len = is
  clear ht e
  induction is generalizing w with
  | nil => simp [eqRounds]
  | cons i is ih =>
    simp only [List.forIn_cons, eqRounds, Sem.run_bind]
    generalize (Go.part elem us (i * n)).run P w = r1
    cases r1 with
    | ok a w1 =>
      simp only [Result.andThen_ok]
      generalize (Go.part elem vs (i * n)).run P w1 = r2
      cases r2 with
      | ok b w2 =>
        simp only [Result.andThen_ok]
        generalize (Op.equalIn m elem a b).run P w2 = r3
        cases r3 with
        | ok r w3 =>
          cases r
          · simp only [Result.andThen_ok, Bool.not_false, if_true, Sem.run_pure]
          · simp only [Result.andThen_ok, Bool.not_true, Bool.false_eq_true, if_false, Sem.run_pure]
            exact ih
        | halt x w3 => simp [Result.andThen]
      | halt x w2 => simp [Result.andThen]
    | halt x w1 => simp [Result.andThen]

theorem eqElems_ok {d m : Nat} (ih : ∀ (t : TypeId) (x y : AV) (r : Bool) (u v : Value), eqv P (live H) d t x y = some r → VR σ x u → VR σ y v → (Op.equalIn m t u v).run P w = .ok r w)
    {elem : TypeId} {n : Nat} {xs ys : List AV} {us vs : Array Value} (hx : VRs σ xs us.toList) (hy : VRs σ ys vs.toList) (sx : ∀ a ∈ xs, sc a) (sy : ∀ a ∈ ys, sc a) : ∀ (k i : Nat) (r : Bool),
    eqv.eqElems P (eqv P (live H) d) elem n k (i * n) xs ys = some r → (eqRounds m elem n us vs (List.range' i k)).run P w = .ok r w
  | 0, i, r, h => by simp [eqv.eqElems] at h; subst h; rfl
  | k + 1, i, r, h => by
    unfold eqv.eqElems at h
    split at h
    · rename_i a b ha hb
      obtain ⟨u, u1, u2⟩ := partAV_ok (w := w) hx sx ha
      obtain ⟨v, v1, v2⟩ := partAV_ok (w := w) hy sy hb
      simp only [List.range'_succ, eqRounds, Sem.run_bind, u1, v1, Result.andThen_ok]
      split at h
      · rename_i he
        rw [ih _ _ _ _ _ _ he u2 v2]
        simp only [Result.andThen_ok, Bool.not_true, Bool.false_eq_true, if_false]
        exact eqElems_ok ih hx hy sx sy k (i + 1) r (by rw [Nat.succ_mul]; exact h)
      · rename_i o hne
        cases r with
        | true => exact absurd h hne
        | false =>
          rw [ih _ _ _ _ _ _ h u2 v2]
          simp
    · cases h

theorem eqv_ok (hR : Rel P w0 σ nx H w) : ∀ (d : Nat) (t : TypeId) (x y : AV) (r : Bool) (u v : Value), eqv P (live H) d t x y = some r → VR σ x u → VR σ y v →
    ∀ m, d ≤ m → (Op.equalIn m t u v).run P w = .ok r w
  | 0, t, x, y, r, u, v, h, _, _, m, _ => by simp [eqv] at h
  | d + 1, t, x, y, r, u, v, h, hu, hv, 0, hm => by omega
  | d + 1, t, x, y, r, u, v, h, hu, hv, m + 1, hm => by
    have ih : ∀ (t : TypeId) (x y : AV) (r : Bool) (u v : Value), eqv P (live H) d t x y = some r → VR σ x u → VR σ y v → (Op.equalIn m t u v).run P w = .ok r w :=
      fun t x y r u v h hu hv => eqv_ok hR d t x y r u v h hu hv m (by omega)
    unfold eqv at h
    split at h
    case h_1 a b =>
      split at h
      · rename_i ht; simp only [VR] at hu hv; subst hu hv
        cases h
        exact run_equalIn_bool' w m t a b ht
      · cases h
    case h_2 k a k' b =>
      split at h
      · rename_i kk ht; simp only [VR] at hu hv; subst hu hv
        split at h
        · rename_i hk; subst hk
          cases h
          rw [ieq_eq]
          exact run_equalIn_int w m t k kk a b ht
        · cases h
      · cases h
    case h_3 a b =>
      split at h
      · rename_i ht; simp only [VR] at hu hv
        obtain ⟨x, rfl, rfl⟩ := hu
        obtain ⟨y, rfl, rfl⟩ := hv
        cases h
        rw [run_equalIn_string w m t x y ht, leq_map, ByteArray.toList_eq, ByteArray.toList_eq]
      · cases h
    case h_4 =>
      split at h
      · rename_i ht
        simp only [VR] at hu hv
        subst hu hv
        cases h
        simp [Op.equalIn, run_und ht]
      · cases h
    case h_5 =>
      split at h
      · rename_i ht
        simp only [VR] at hu hv
        obtain ⟨l, _, rfl⟩ := hv; subst hu
        cases h
        simp [Op.equalIn, run_und ht]
      · cases h
    case h_6 =>
      split at h
      · rename_i ht
        simp only [VR] at hu hv
        obtain ⟨l, _, rfl⟩ := hu; subst hv
        cases h
        simp [Op.equalIn, run_und ht]
      · cases h
    case h_7 a o b p =>
      split at h
      · rename_i e ht
        split at h
        · rename_i k hk
          simp only [VR] at hu hv
          obtain ⟨la, la1, rfl⟩ := hu
          obtain ⟨lb, lb1, rfl⟩ := hv
          have hs : (sizeOf e).run P w = .ok (k + 1) w := run_size hk
          simp only [Op.equalIn, Sem.run_bind, run_und ht, Result.andThen_ok, hs]
          rw [if_pos (by omega)]
          split at h
          · rename_i hab
            have hab' := Nat.eq_of_beq_eq_true hab
            subst hab'
            rw [la1] at lb1; cases lb1
            cases h
            simp only [sameAddr, Loc.at, beq_self_eq_true, if_true]
            show Result.ok _ w = _
            congr 1
            rw [Bool.eq_iff_iff]
            simp
          · rename_i hab
            split at h
            · rename_i hlive
              cases h
              rw [Bool.and_eq_true] at hlive
              obtain ⟨cs, e1, xs, g1, g2, _⟩ := live_ok hR la1 hlive.1
              obtain ⟨ds, e2, ys, k1, k2, _⟩ := live_ok hR lb1 hlive.2
              refine run_sameAddr_other ?_ g2 k2
              intro e
              have := hR.inj a b _ _ la lb g1 k1 la1 lb1 e
              rw [this] at hab; simp at hab
            · cases h
        · cases h
      · cases h
    case h_8 =>
      split at h
      · rename_i ht
        simp only [VR] at hu hv
        subst hu hv
        cases h
        simp [Op.equalIn, run_und ht]
      · cases h
    case h_9 =>
      split at h
      · rename_i ht
        simp only [VR] at hu hv
        obtain ⟨_, rfl, _⟩ := hv; subst hu
        cases h
        simp [Op.equalIn, run_und ht]
      · cases h
    case h_10 =>
      split at h
      · rename_i ht
        simp only [VR] at hu hv
        obtain ⟨_, rfl, _⟩ := hu; subst hv
        cases h
        simp [Op.equalIn, run_und ht]
      · cases h
    case h_11 =>
      split at h
      · rename_i ht
        simp only [VR] at hu hv
        subst hu hv
        cases h
        simp [Op.equalIn, run_und ht]
      · cases h
    case h_12 b o n c =>
      split at h
      · rename_i ht
        obtain ⟨a, n', c', rfl⟩ := slc_shape hv
        simp only [VR] at hu
        subst hu
        cases h
        simp [Op.equalIn, run_und ht]
      · cases h
    case h_13 b o n c =>
      split at h
      · rename_i ht
        obtain ⟨a, n', c', rfl⟩ := slc_shape hu
        simp only [VR] at hv
        subst hv
        cases h
        simp [Op.equalIn, run_und ht]
      · cases h
    case h_14 q =>
      split at h
      · rename_i ht
        simp only [VR] at hu
        subst hu
        cases h
        cases q with
        | none => simp only [VR] at hv; subst hv; simp [Op.equalIn, run_und ht]
        | some q => simp only [VR] at hv; obtain ⟨l, _, rfl⟩ := hv; simp [Op.equalIn, run_und ht]
      · cases h
    case h_15 q =>
      split at h
      · rename_i ht
        simp only [VR] at hu hv
        obtain ⟨l, _, rfl⟩ := hu
        subst hv
        cases h
        simp [Op.equalIn, run_und ht]
      · cases h
    case h_16 =>
      split at h
      · rename_i ht
        simp only [VR] at hu hv
        subst hu hv
        cases h
        simp [Op.equalIn, run_und ht]
      · cases h
    case h_17 =>
      split at h
      · rename_i ht
        simp only [VR] at hu hv
        obtain ⟨_, _, _, rfl, _⟩ := hv; subst hu
        cases h
        simp [Op.equalIn, run_und ht]
      · cases h
    case h_18 =>
      split at h
      · rename_i ht
        simp only [VR] at hu hv
        obtain ⟨_, _, _, rfl, _⟩ := hu; subst hv
        cases h
        simp [Op.equalIn, run_und ht]
      · cases h
    case h_19 k a b k' a' b' =>
      split at h
      · rename_i ht
        simp only [VR] at hu hv
        subst hu hv
        split at h
        · rename_i hk
          subst hk
          cases h
          simp [Op.equalIn, run_und ht]
        · cases h
      · cases h
    case h_20 k a k' b =>
      split at h
      · rename_i ht
        simp only [VR] at hu hv
        subst hu hv
        split at h
        · rename_i hk
          subst hk
          cases h
          simp [Op.equalIn, run_und ht]
        · cases h
      · cases h
    case h_21 xs ys =>
      split at h
      · rename_i fs ht
        split at h
        · cases h
        · rename_i hst
          simp only [VR] at hu hv
          obtain ⟨us, rfl, u1, u2⟩ := hu
          obtain ⟨vs, rfl, v1, v2⟩ := hv
          have hfo : P.fieldsOf t = fs := by simp [Program.fieldsOf, ht]
          rw [run_equalIn_struct w m t us vs (by rw [hfo]; exact ht) (by simpa using hst), hfo]
          exact eqFields_ok ih u1 v1 u2 v2 _ _ h
      · rename_i len elem ht
        split at h
        · rename_i n hn
          simp only [VR] at hu hv
          obtain ⟨us, rfl, u1, u2⟩ := hu
          obtain ⟨vs, rfl, v1, v2⟩ := hv
          rw [run_equalIn_array m t elem len n us vs ht hn]
          exact eqElems_ok ih u1 v1 u2 v2 len 0 r (by rw [Nat.zero_mul]; exact h)
        · cases h
      · cases h
    case h_22 => cases h
end
end Go.SK

/- One operation, sixth part: binary and unary operators. -/
namespace Go.SK
open Go

def plainEq : Value → Bool
  | .int _ _ | .float _ _ | .complex _ _ _ | .string _ => false
  | _ => true
theorem binOp_eql {t : TypeId} {u v : Value} (h : plainEq u = true) : binOp .eql t u v = (do pure (.bool (← Op.equal t u v))) := by
  cases u <;> first | rfl | (simp [plainEq] at h)
theorem binOp_neq {t : TypeId} {u v : Value} (h : plainEq u = true) : binOp .neq t u v = (do pure (.bool (!(← Op.equal t u v)))) := by
  cases u <;> first | rfl | (simp [plainEq] at h)

theorem eqGuard_other {P : Program} {w : World} {op : BinOp} (h1 : op ≠ .eql) (h2 : op ≠ .neq) (t : TypeId) (x y : Operand) (u v : Value) : (eqGuard op t x y u v).run P w = .ok () w := by
  cases op <;> first | rfl | exact absurd rfl h1 | exact absurd rfl h2

theorem eqGuard_core {P : Program} {w : World} {op : BinOp} (ho : op = .eql ∨ op = .neq) {t : TypeId} {x y : Operand} {u v : Value} (hg : P.eqGuardType P.depth t = false ∨ ∀ xs ys, u = .agg xs → v = .agg ys → False)
    (hn : (isC x || isC y) = true ∨ (u = .nilIface → v = .nilIface → False)) : (eqGuard op t x y u v).run P w = .ok () w := by
  have e : eqGuard op t x y u v = eqGuard .eql t x y u v := by rcases ho with rfl | rfl <;> rfl
  rw [e]
  unfold eqGuard
  simp only [Bool.not_true, Bool.false_eq_true, if_false]
  split
  · rcases hn with hn | hn
    · rw [if_pos]
      · rfl
      · cases x <;> cases y <;> simp_all [isC]
    · exact (hn rfl rfl).elim
  · rcases hg with hg | hg
    · simp [run_program, hg]
    · exact (hg _ _ rfl rfl).elim
  · rfl

theorem eqGuard_plain {P : Program} {w : World} {op : BinOp} {t : TypeId} {x y : Operand} {u v : Value} (hg : P.eqGuardType P.depth t = false ∨ ∀ xs ys, u = .agg xs → v = .agg ys → False)
    (hn : (isC x || isC y) = true ∨ (u = .nilIface → v = .nilIface → False)) : (eqGuard op t x y u v).run P w = .ok () w := by
  by_cases h1 : op = .eql
  case neg =>
    by_cases h2 : op = .neq
    case neg => exact eqGuard_other h1 h2 t x y u v
    case pos =>
      subst h2
      exact eqGuard_core (op := .neq) (.inr rfl) hg hn
  case pos =>
    subst h1
    exact eqGuard_core (op := .eql) (.inl rfl) hg hn

theorem xorM_eq (k : IntKind) : xorM k = if k.signed then -1 else k.max := by cases k <;> rfl

section
variable {P : Program} {w0 : World} {σ : Sg} {nx : Nat} {H : Heap} {w : World} {E : Env} {ρ : Operand → Value} {o : Oper}

theorem eqA_ok (hR : Rel P w0 σ nx H w) {t : TypeId} {x y : Operand} {a b : AV} {r : Bool} {u v : Value} {op : BinOp} (h : eqA P H t (isC x || isC y) a b = some r) (hu : VR σ a u) (hv : VR σ b v) :
    plainEq u = true ∧ (eqGuard op t x y u v).run P w = .ok () w ∧ (Op.equal t u v).run P w = .ok r w := by
  have key : eqv P (live H) 100 t a b = some r → (Op.equal t u v).run P w = .ok r w := fun h => eqv_ok hR 100 t a b r u v h hu hv 10000 (by omega)
  unfold eqA at h
  split at h
  · split at h
    · rename_i hc
      simp only [VR] at hu hv
      subst hu hv
      exact ⟨rfl, eqGuard_plain (.inr fun _ _ e => by cases e) (.inl hc), key h⟩
    · cases h
  · cases h
  · cases h
  · cases h
  · cases h
  · rename_i n1 n2 n3 n4 n5
    split at h
    · cases h
    · rename_i hg
      refine ⟨?_, eqGuard_plain (.inl hg) (.inr ?_), key h⟩
      · cases a <;> first
          | exact (n1 _ _ rfl).elim | exact (n2 _ _ rfl).elim | exact (n3 _ _ _ rfl).elim | exact (n4 _ rfl).elim
          | (simp only [VR] at hu; subst hu; rfl)
          | (obtain ⟨_, _, _, rfl⟩ := slc_shape hu; rfl)
          | (simp only [VR] at hu; obtain ⟨_, _, rfl⟩ := hu; rfl)
          | (simp only [VR] at hu; obtain ⟨_, rfl, _⟩ := hu; rfl)
          | (simp only [VR] at hu; obtain ⟨_, _, _, rfl, _⟩ := hu; rfl)
          | (rename_i r; cases r <;> simp only [VR] at hu <;> first | (subst hu; rfl) | (obtain ⟨_, _, rfl⟩ := hu; rfl))
      · intro e1 e2
        subst e1 e2
        have ha : a = .nili := by
          cases a <;> first
            | rfl
            | (simp only [VR] at hu; cases hu; done)
            | (obtain ⟨_, _, _, e⟩ := slc_shape hu; cases e; done)
            | (simp only [VR] at hu; obtain ⟨_, _, e⟩ := hu; cases e; done)
            | (simp only [VR] at hu; obtain ⟨_, e, _⟩ := hu; cases e; done)
            | (simp only [VR] at hu; obtain ⟨_, _, _, e, _⟩ := hu; cases e; done)
            | (rename_i r; cases r <;> simp only [VR] at hu <;> first | (cases hu; done) | (obtain ⟨_, _, e⟩ := hu; cases e; done))
        have hb : b = .nili := by
          cases b <;> first
            | rfl
            | (simp only [VR] at hv; cases hv; done)
            | (obtain ⟨_, _, _, e⟩ := slc_shape hv; cases e; done)
            | (simp only [VR] at hv; obtain ⟨_, _, e⟩ := hv; cases e; done)
            | (simp only [VR] at hv; obtain ⟨_, e, _⟩ := hv; cases e; done)
            | (simp only [VR] at hv; obtain ⟨_, _, _, e, _⟩ := hv; cases e; done)
            | (rename_i r; cases r <;> simp only [VR] at hv <;> first | (cases hv; done) | (obtain ⟨_, _, e⟩ := hv; cases e; done))
        exact n5 ha hb

theorem opBin_ok (hR : Rel P w0 σ nx H w) {op : BinOp} {t yt : TypeId} {x y : Operand} (hE : OpdOn σ E ρ [x, y]) {r : OpR} (h : opBin P E H nx op t x y = some r) (ho : o.op = .binOp op t x y yt) : OpOk P w0 σ H nx w r (execOp ρ o) := by
  unfold opBin at h
  split at h
  · rename_i a ha
    split at h
    · rename_i b hb
      split at h
      · rename_i v hv
        cases h
        have hx := hE x (by simp) _ ha
        have hy := hE y (by simp) _ hb
        have fin : ∀ {u : Value}, VR σ v u → (eqGuard op t x y (ρ x) (ρ y)).run P w = .ok () w → (binOp op t (ρ x) (ρ y)).run P w = .ok u w → ValR P w0 σ v H nx ((execOp ρ o).run P w) := by
          intro u h1 h2 h3
          refine ValR.same hR (v' := u) ?_ h1
          simp only [execOp, ho, Sem.run_bind, h2, Result.andThen_ok, h3, Sem.run_pure]
        unfold binA at hv
        split at hv
        · rename_i k p k' q
          simp only [VR] at hx hy
          have hgu : (eqGuard op t x y (ρ x) (ρ y)).run P w = .ok () w := by
            rw [hx, hy]
            exact eqGuard_plain (.inr fun _ _ e => by cases e) (.inr fun e => by cases e)
          split at hv
          · obtain ⟨u, u1, u2⟩ := shiftOp_ok (yk := k') hv P w
            exact fin (u1 σ) hgu (by rw [hx, hy]; exact u2)
          · obtain ⟨u, u1, u2⟩ := shiftOp_ok (yk := k') hv P w
            exact fin (u1 σ) hgu (by rw [hx, hy]; exact u2)
          · rename_i n1 n2
            split at hv
            · rename_i hk
              have hk' := keq_true hk
              subst hk'
              obtain ⟨u, u1, u2⟩ := intOp_ok hv P w
              refine fin (u1 σ) hgu ?_
              rw [hx, hy]
              rw [← u2]
              cases op <;> first | rfl | exact absurd rfl n1 | exact absurd rfl n2 | (simp [binOp]; done)
            · cases hv
        · rename_i p q
          simp only [VR] at hx hy
          obtain ⟨s1, e1, f1⟩ := hx
          obtain ⟨s2, e2, f2⟩ := hy
          obtain ⟨u, u1, u2⟩ := strOp_ok hv P w f1 f2
          refine fin (u1 σ) (by rw [e1, e2]; exact eqGuard_plain (.inr fun _ _ e => by cases e) (.inr fun e => by cases e)) ?_
          rw [e1, e2, ← u2]
          cases op <;> rfl
        · unfold binEq at hv
          split at hv
          · split at hv
            · rename_i q hq
              cases hv
              obtain ⟨g1, g2, g3⟩ := eqA_ok (op := .eql) hR hq hx hy
              exact fin (u := .bool q) (by simp [VR]) g2 (by rw [binOp_eql g1]; simp [g3])
            · cases hv
          · split at hv
            · rename_i q hq
              cases hv
              obtain ⟨g1, g2, g3⟩ := eqA_ok (op := .neq) hR hq hx hy
              exact fin (u := .bool (!q)) (by simp [VR]) g2 (by rw [binOp_neq g1]; simp [g3])
            · cases hv
          · cases hv
      · cases h
    · cases h
  · cases h

theorem opUn_ok (hR : Rel P w0 σ nx H w) {op : UnOp} {t : TypeId} {x : Operand} (hE : OpdOn σ E ρ [x]) {r : OpR} (h : opUn E H nx op x = some r) (ho : o.op = .unOp op t x) : OpOk P w0 σ H nx w r (execOp ρ o) := by
  unfold opUn at h
  split at h
  · rename_i a ha
    split at h
    · rename_i v hv
      cases h
      have hx := hE x (by simp) _ ha
      unfold unA at hv
      split at hv
      · rename_i k n
        simp only [VR] at hx
        rw [fint_eq, wrp_eq] at hv
        cases hv
        exact ValR.same hR (v' := .int k (k.wrap (0 - n))) (by simp [execOp, ho, hx, Op.unary, Op.intArith]) (by simp [VR])
      · rename_i k n
        simp only [VR] at hx
        rw [xorM_eq] at hv
        obtain ⟨m, rfl, h2⟩ := bitOp_ok (op := .xor) (by simp) hv P w
        refine ValR.same hR (v' := .int k m) ?_ (by simp [VR])
        simp only [execOp, ho, hx, Op.unary, Sem.run_bind, h2, Result.andThen_ok, Sem.run_pure]
      · rename_i b
        simp only [VR] at hx
        cases hv
        exact ValR.same hR (v' := .bool (!b)) (by simp [execOp, ho, hx, Op.unary]) (by simp [VR])
      · cases hv
    · cases h
  · cases h

end
end Go.SK

/- One operation, seventh part: new slices and maps, conversions, slicing. -/
namespace Go.SK
open Go

theorem reps_get (z : List AV) (hz : 0 < z.length) : ∀ (n i : Nat), i < n * z.length → (reps n z)[i]? = z[i % z.length]?
  | 0, i, h => by simp at h
  | n + 1, i, h => by
    simp only [reps]
    by_cases c : i < z.length
    · rw [List.getElem?_append_left c, Nat.mod_eq_of_lt c]
    · have hn : i - z.length < n * z.length := by rw [Nat.succ_mul] at h; omega
      have e : i % z.length = (i - z.length) % z.length := Nat.mod_eq_sub_mod (by omega)
      rw [List.getElem?_append_right (by omega), reps_get z hz n (i - z.length) hn, e]

theorem reps_sc {z : List AV} (h : ∀ a ∈ z, sc a) : ∀ n, ∀ a ∈ reps n z, sc a
  | 0 => by simp [reps]
  | n + 1 => by
    intro a ha
    simp only [reps, List.mem_append] at ha
    rcases ha with ha | ha
    · exact h a ha
    · exact reps_sc h n a ha

/-- rows of zeros -/
theorem reps_VRs {σ : Sg} {z : List AV} {zero : Array Value} (h : VRs σ z zero.toList) (n : Nat) :
    VRs σ (reps n z) ((Array.range (n * zero.size)).map fun i => zero[i % zero.size]!).toList := by
  have hl : zero.size = z.length := by simpa using h.len
  refine VRs.of_get (by rw [reps_eq, ← hl]; simp) fun i a hi => ?_
  have hi' : i < n * z.length := by
    have := (List.getElem?_eq_some_iff.1 hi).1
    rwa [reps_eq] at this
  have hz : 0 < z.length := by
    rcases Nat.eq_zero_or_pos z.length with c | c
    · rw [c] at hi'; simp at hi'
    · exact c
  rw [reps_get z hz n i hi'] at hi
  obtain ⟨v, v1, v2⟩ := h.get _ a hi
  refine ⟨v, ?_, v2⟩
  rw [Array.getElem?_toList, Array.getElem?_map, Array.getElem?_range, if_pos (by rw [hl]; exact hi')]
  rw [Array.getElem?_toList] at v1
  have hlt : i % zero.size < zero.size := by rw [hl]; exact Nat.mod_lt _ hz
  rw [hl, Option.map_some]
  rw [hl] at hlt
  rw [getElem!_pos zero (i % z.length) (by rw [hl]; exact hlt)]
  rw [Array.getElem?_eq_getElem (by rw [hl]; exact hlt)] at v1
  exact v1

section
variable {P : Program} {w0 : World} {σ : Sg} {nx : Nat} {H : Heap} {w : World} {E : Env} {ρ : Operand → Value} {o : Oper}

theorem opBuildSlice_ok (hR : Rel P w0 σ nx H w) {t : TypeId} {n : Nat} {parts : Array (Nat × Operand)} (hE : OpdOn σ E ρ (parts.toList.map (·.2))) {r : OpR} (h : opBuildSlice P E H nx t n parts.toList = some r) (ho : o.op = .buildSlice t n parts) : OpOk P w0 σ H nx w r (execOp ρ o) := by
  unfold opBuildSlice at h
  split at h
  · rename_i e ht
    split at h
    · rename_i s z hs hz
      split at h
      · rename_i hb
        split at h
        · rename_i cs hcs
          cases h
          rw [Bool.and_eq_true] at hb
          have hb1 : n * s ≤ 16777216 := Nat.le_of_ble_eq_true hb.1
          have hb2 := Nat.eq_of_beq_eq_true hb.2
          rw [len_eq] at hb2
          obtain ⟨i, v, h1, h2, h3, h4⟩ := zeroC_VR σ hz
          have hvs : v.cells.size = s := by have := h3.len; simp at this; omega
          obtain ⟨cells', f1, f2, f3, f4⟩ := fillP_ok (ρ := ρ) (place' := fun i => some (i * s, s)) (fun _ _ h => h) _ _ _ _ hE (reps_VRs h3 n) (reps_sc h4 n) hcs
          obtain ⟨l, a1, a2, a3, a4, a5⟩ := newB_ok (e := e) (n := s) hR f2 f3 hs
          refine ⟨σ.ext nx l, .slice (some ⟨w.heap.size, 0, none⟩) n n, _, _, Sg.le_ext (hR.fresh nx (Nat.le_refl _)), ?_, .inl rfl, ?_, a5⟩
          · simp only [execOp, ho, Instr.buildSlice, Sem.run_bind, run_und ht, run_size hs, Result.andThen_ok]
            rw [if_neg (by omega)]
            rw [← hvs] at *
            by_cases c : n * v.cells.size = 0
            · rw [c] at f1
              simp only [c, if_true, pure_bind, Array.toList_map]
              have e1 : Array.map (fun x => (#[] : Array Value)[x % (#[] : Array Value).size]!) (Array.range 0) = Array.map (fun i => v.cells[i % v.cells.size]!) (Array.range 0) := by simp
              rw [e1, f1]
              simp [newRow]
            · simp only [c, if_false, Sem.run_bind, run_zero h1 h2, Result.andThen_ok, Sem.run_pure, Array.toList_map]
              rw [f1]
              simp [newRow]
          · simp only [VR]; exact ⟨l, Sg.ext_same _ _ _, by simp [Loc.at, a1, a2], Nat.le_refl _⟩
        · cases h
      · cases h
    · cases h
  · cases h

theorem newMap_ok (hR : Rel P w0 σ nx H w) : ∃ l : Loc, l.blk = w.heap.size ∧ Rel P w0 (σ.ext nx l) (nx + 1) (H.set nx (some (.map []))) (w.alloc (.map #[] 0)) := by
  refine ⟨⟨w.heap.size, 0, 0, 0⟩, rfl, hR.alloc _ _ _ rfl ?_⟩
  simp only [OR]
  exact ⟨#[], 0, [], heap_new _ _, List.Perm.refl _, rfl, ⟨⟨.bool, by simp⟩, by simp⟩⟩

theorem opMakeMap_ok (hR : Rel P w0 σ nx H w) {t : TypeId} {x : Option Operand} (hE : OpdOn σ E ρ x.toList) {r : OpR} (h : opMakeMap P E H nx t x = some r) (ho : o.op = .makeMap t x) : OpOk P w0 σ H nx w r (execOp ρ o) := by
  unfold opMakeMap at h
  split at h
  · rename_i k e ht
    have fin : r = newMap H nx → (execOp ρ o).run P w = .ok (.value (.map (some w.heap.size))) (w.alloc (.map #[] 0)) → OpOk P w0 σ H nx w r (execOp ρ o) := by
      intro hr hrun
      subst hr
      obtain ⟨l, l1, l2⟩ := newMap_ok hR
      exact ⟨σ.ext nx l, _, _, _, Sg.le_ext (hR.fresh nx (Nat.le_refl _)), hrun, .inl rfl, by simp only [VR]; exact ⟨l, Sg.ext_same _ _ _, by rw [l1]⟩, l2⟩
    split at h
    · cases h
      exact fin rfl (by simp [execOp, ho, Instr.makeMap])
    · rename_i y
      split at h
      · rename_i kk n hy
        cases h
        have := hE y (by simp) _ hy
        simp only [VR] at this
        exact fin rfl (by simp [execOp, ho, Instr.makeMap, this, asInt, asIntOf, run_und ht])
      · cases h
  · cases h

theorem opMakeSlice_ok (hR : Rel P w0 σ nx H w) {t : TypeId} {x y : Operand} (hE : OpdOn σ E ρ [x, y]) {r : OpR} (h : opMakeSlice P E H nx t x y = some r) (ho : o.op = .makeSlice t x y) : OpOk P w0 σ H nx w r (execOp ρ o) := by
  unfold opMakeSlice at h
  split at h
  · rename_i e ht
    split at h
    · rename_i s wb z hs hw hz
      split at h
      · rename_i kl l kc c hx hy
        split at h
        · rename_i h1 h2 h3
          cases h
          have b1 := Nat.le_of_ble_eq_true h1
          have b2 : wb * c ≤ 1073741824 := Nat.le_of_ble_eq_true h2
          rw [Bool.and_eq_true] at h3
          have b3 := Nat.le_of_ble_eq_true h3.1
          have b4 := Nat.eq_of_beq_eq_true h3.2
          rw [len_eq] at b4
          have hx' := hE x (by simp) _ hx
          have hy' := hE y (by simp) _ hy
          simp only [VR] at hx' hy'
          obtain ⟨i, v, z1, z2, z3, z4⟩ := zeroC_VR σ hz
          have hvs : v.cells.size = s := by have := z3.len; simp at this; omega
          have hib : i.bytes = wb := by obtain ⟨j, j1, j2⟩ := run_bytes hw; rw [z1] at j1; cases j1; exact j2
          have wl : IntKind.i64.wrap (Int.ofNat l) = l := by simp [IntKind.wrap, IntKind.bits, IntKind.signed]; omega
          have wc : IntKind.i64.wrap (Int.ofNat c) = c := by simp [IntKind.wrap, IntKind.bits, IntKind.signed]; omega
          obtain ⟨lo, a1, a2, a3, a4, a5⟩ := newB_ok (e := e) (n := s) hR (reps_VRs z3 c) (reps_sc z4 c) hs
          refine ⟨σ.ext nx lo, .slice (some ⟨w.heap.size, 0, none⟩) l c, _, _, Sg.le_ext (hR.fresh nx (Nat.le_refl _)), ?_, .inl rfl, ?_, a5⟩
          · simp only [execOp, ho, Instr.makeSlice, Sem.run_bind, run_und ht, Result.andThen_ok, hx', hy', asInt, asIntOf, Sem.run_pure, typeInfo, run_program, z1, pure_bind, wl, wc, hib]
            have hbig : ¬ ((wb : Int) * (c : Int) > 2 ^ 48) := by
              have : ((wb * c : Nat) : Int) ≤ 1073741824 := by omega
              rw [Int.natCast_mul] at this
              omega
            have hneg : ¬ ((c : Int) < 0) := by omega
            have hcond : (((decide ((c : Int) < 0) || decide ((wb : Int) * (c : Int) > 2 ^ 48)) || decide ((l : Int) < 0)) || decide ((l : Int) > (c : Int))) = false := by
              simp only [hbig, hneg, decide_false, Bool.or_false, Bool.false_or]
              have q1 : ¬ ((l : Int) < 0) := by omega
              have q2 : ¬ ((l : Int) > (c : Int)) := by omega
              simp [q1, q2]
            simp only [hcond, Bool.false_eq_true, if_false, Sem.run_bind, run_askRoom, Result.andThen_ok, run_size hs, Int.toNat_natCast]
            rw [← hvs]
            by_cases cc : c * v.cells.size = 0
            · have e1 : ∀ f : Nat → Value, Array.map f (Array.range 0) = #[] := fun f => by simp
              simp only [cc, if_true, e1]
              simp [newRow]
            · simp only [cc, if_false, Sem.run_bind, run_zero z1 z2, Result.andThen_ok]
              simp only [newRow, Sem.run_bind, run_newObj, Result.andThen_ok, Sem.run_pure, World.alloc_eq, Array.toArray_toList]
          · simp only [VR]; exact ⟨lo, Sg.ext_same _ _ _, by simp [Loc.at, a1, a2], b1⟩
        · cases h
      · cases h
    · cases h
  · cases h

end
end Go.SK

/- One operation, eighth part: conversions. -/
namespace Go.SK
open Go

theorem freeze_touch (w : World) (b o n : Nat) : Touch b w (w.freeze ⟨b, o, none⟩ n) := by
  unfold World.freeze
  split
  · exact Touch.refl _ _
  · exact ⟨rfl, rfl, rfl, by simp, fun k hk => by simp only [Array.getElem?_modify]; rw [if_neg (by omega)]⟩

theorem freeze_row {w : World} {b : Nat} {xs : Array Value} {e : TypeId} {fz : Nat × Nat} (h : w.heap[b]? = some (.cells xs e fz)) (hc : Calm xs fz) :
    ∃ fz', (w.freeze ⟨b, xs.size, none⟩ 1).heap[b]? = some (.cells xs e fz') ∧ Calm xs fz' := by
  obtain ⟨lo, hi⟩ := fz
  unfold World.freeze
  rw [if_neg (by omega)]
  simp only [Array.getElem?_modify, h, if_true, Option.map_some]
  by_cases c : lo = hi
  · subst c
    refine ⟨(xs.size, xs.size + 1), by simp, .inr (Nat.le_refl _)⟩
  · have : (lo == hi) = false := by simpa using c
    refine ⟨(min lo xs.size, max hi (xs.size + 1)), by simp [this], ?_⟩
    rcases hc with hc | hc
    · exact absurd hc c
    · right; simp only at hc ⊢; omega

theorem run_markStringish {P : Program} {w : World} {b o : Nat} {xs : Array Value} {e : TypeId} {fz : Nat × Nat} (h : w.heap[b]? = some (.cells xs e fz)) :
    (markStringish ⟨b, o, none⟩).run P w = .ok () (w.freeze ⟨b, xs.size, none⟩ 1) := by
  have hs : w.shape? b = some (e, xs.size) := by simp [World.shape?, h]
  simp [markStringish, hs]

section
variable {P : Program} {w0 : World} {σ : Sg} {nx : Nat} {H : Heap} {w : World} {E : Env} {ρ : Operand → Value} {o : Oper}

theorem bytesOf_ok : ∀ {r : List AV} {bs : List Nat} {vs : List Value}, VRs σ r vs → bytesOf r = some bs → ∃ ns : List Int, vs = ns.map (Value.int .u8) ∧ bs = ns.map Int.toNat ∧ ∀ b ∈ bs, b < 256
  | [], bs, vs, h, hb => by
    simp [bytesOf] at hb; subst hb
    simp only [VRs] at h; subst h
    exact ⟨[], rfl, rfl, by simp⟩
  | a :: r, bs, vs, h, hb => by
    unfold bytesOf at hb
    split at hb
    · cases hb; rename_i e; cases e
    · rename_i n l e
      cases e
      split at hb
      · rename_i hlt hr
        cases hb
        simp only [VRs, VR] at h
        obtain ⟨v, vs', rfl, rfl, h3⟩ := h
        obtain ⟨ns, n1, n2, n3⟩ := bytesOf_ok h3 hr
        refine ⟨.ofNat n :: ns, by simp [n1], by simp [n2], fun b hb => ?_⟩
        simp only [List.mem_cons] at hb
        rcases hb with rfl | hb
        · simpa using hlt
        · exact n3 b hb
      · cases hb
    · cases hb

theorem push_data (ns : List Int) : ∀ s : ByteArray, (ns.foldl (fun r n => r.push (UInt8.ofNat n.toNat)) s).data.toList = s.data.toList ++ ns.map fun n => UInt8.ofNat n.toNat := by
  induction ns with
  | nil => intro s; simp
  | cons n ns ih =>
    intro s
    rw [List.foldl_cons, ih]
    simp [ByteArray.push]

theorem opConv_ok (hR : Rel P w0 σ nx H w) {s d : TypeId} {x : Operand} (hE : OpdOn σ E ρ [x]) {r : OpR} (h : opConv P E H nx s d x = some r) (ho : o.op = .convert s d x) : OpOk P w0 σ H nx w r (execOp ρ o) := by
  unfold opConv at h
  split at h
  · rename_i a ha
    have hx := hE x (by simp) _ ha
    have fin : ∀ {v : AV} {u : Value}, VR σ v u → (convert s d (ρ x)).run P w = .ok u w → ValR P w0 σ v H nx ((execOp ρ o).run P w) := by
      intro v u h1 h2
      refine ValR.same hR (v' := u) ?_ h1
      simp only [execOp, ho, Sem.run_bind, h2, Result.andThen_ok, Sem.run_pure]
    have fin' : ∀ {u : Value} {w' : World}, (convert s d (ρ x)).run P w = .ok u w' → (execOp ρ o).run P w = .ok (.value u) w' := by
      intro u w' h2
      simp only [execOp, ho, Sem.run_bind, h2, Result.andThen_ok, Sem.run_pure]
    unfold convOp at h
    split at h
    · rename_i ds k kk n h1 h2
      rw [fint_eq, wrp_eq] at h
      cases h
      simp only [VR] at hx
      exact fin (u := .int k (k.wrap n)) (by simp [VR]) (by rw [hx]; simp only [convert, Sem.run_bind, run_und h1, run_und h2, Result.andThen_ok]; cases ds <;> rfl)
    · rename_i ds k kk n h1 h2
      cases h
      simp only [VR] at hx
      exact fin (u := .float k (k.nearest n)) (by simp [VR]) (by rw [hx]; simp only [convert, Sem.run_bind, run_und h1, run_und h2, Result.andThen_ok]; cases ds <;> rfl)
    · rename_i ds str h1 h2
      cases h
      have hx2 := hx
      simp only [VR] at hx2
      obtain ⟨t, t1, t2⟩ := hx2
      exact fin (u := ρ x) hx (by rw [t1]; simp only [convert, Sem.run_bind, run_und h1, run_und h2, Result.andThen_ok]; cases ds <;> rfl)
    · rename_i e str h1 h2
      split at h
      · rename_i he hz
        cases h
        simp only [VR] at hx
        obtain ⟨t, t1, t2⟩ := hx
        -- the new row
        let cap := t.size + w.tape w.drawn (.appendCap t.size 0 e) % (2 ^ 63 - t.size)
        let xs : Array Value := (t.data.map fun b => .int .u8 b.toNat) ++ Array.replicate (cap - t.size) (.int .u8 0)
        have hxs : xs.size = cap := by
          simp only [xs, Array.size_append, Array.size_map, Array.size_replicate]
          show t.size + (cap - t.size) = cap
          simp only [cap]; omega
        have hsl : str.length = t.size := by rw [← t2, List.length_map, Array.length_toList]; rfl
        let w1 := w.drew.alloc (.cells xs e)
        have hrow : w1.heap[w.heap.size]? = some (.cells xs e (0, 0)) := heap_new w.drew _
        obtain ⟨fz, f1, f2⟩ := freeze_row hrow (.inl rfl)
        have hR1 := hR.drew.alloc (.cells xs e) (.cells (str.map fun c => .int .u8 (.ofNat c)) e .str) ⟨w.heap.size, 0, cap, 1⟩ rfl (by
          simp only [OR]
          refine ⟨xs, (0, 0), hrow, hxs, by rw [hxs, List.length_map, hsl]; simp only [cap]; omega, fun i a hi => ?_, fun a ha => ?_, .inl rfl, hz⟩
          · rw [List.getElem?_map, Option.map_eq_some_iff] at hi
            obtain ⟨c, hc, rfl⟩ := hi
            rw [← t2, List.getElem?_map, Option.map_eq_some_iff] at hc
            obtain ⟨b8, hb8, rfl⟩ := hc
            refine ⟨.int .u8 b8.toNat, ?_, by simp only [VR]; rfl⟩
            have hlt : i < t.data.size := by
              have := (List.getElem?_eq_some_iff.1 hb8).1
              simpa using this
            simp only [xs, Nat.zero_add]
            rw [Array.getElem?_append_left (by simpa using hlt)]
            rw [Array.getElem?_toList] at hb8
            simp [hb8]
          · simp only [List.mem_map] at ha
            obtain ⟨c, _, rfl⟩ := ha
            trivial)
        have hR2 := hR1.change (i := nx) (o' := .cells (str.map fun c => .int .u8 (.ofNat c)) e .str) (w' := w1.freeze ⟨w.heap.size, xs.size, none⟩ 1)
          (T.get_set_same _ _ _) (Sg.ext_same _ _ _) (by simp) (freeze_touch _ _ _ _) (by
            obtain ⟨l, l1, l2⟩ := hR1.dom nx _ (T.get_set_same _ _ _)
            rw [Sg.ext_same] at l1; cases l1
            simp only [OR] at l2 ⊢
            obtain ⟨xs', fz', g1, g2, g3, g4, g5, g6, g7⟩ := l2
            have g1' : some (Obj.cells xs e (0, 0)) = some (.cells xs' e fz') := hrow.symm.trans g1
            simp only [Option.some.injEq, Obj.cells.injEq] at g1'
            obtain ⟨rfl, _, _⟩ := g1'
            exact ⟨xs, fz, f1, g2, g3, g4, g5, f2, g7⟩)
        refine ⟨σ.ext nx ⟨w.heap.size, 0, cap, 1⟩, .slice (some ⟨w.heap.size, 0, none⟩) t.size cap, w1.freeze ⟨w.heap.size, xs.size, none⟩ 1, _, Sg.le_ext (hR.fresh nx (Nat.le_refl _)), fin' ?_, .inl rfl, ?_, ?_⟩
        rotate_left
        · simp only [VR]
          refine ⟨_, cap, Sg.ext_same _ _ _, ?_, ?_, by simp⟩
          · rw [len_eq, hsl]; simp [Loc.at]
          · rw [len_eq, hsl]; simp only [cap]; omega
        rotate_left
        · rw [t1]
          have hq : Question.forced (.appendCap t.size 0 e) = false := rfl
          simp only [convert, Sem.run_bind, run_und h1, run_und h2, run_und he, Result.andThen_ok, Conv.stringToBytes, run_choose, hq, Bool.false_eq_true, if_false, newRow, run_newObj, Sem.run_pure]
          have hm : (markStringish ⟨w.heap.size, 0, none⟩).run P w1 = .ok () (w1.freeze ⟨w.heap.size, xs.size, none⟩ 1) := run_markStringish hrow
          exact congrArg (fun q : Result Unit => q.andThen fun _ w' => Result.ok (Value.slice (some ⟨w.heap.size, 0, none⟩) t.size cap) w') hm
        · have : (T.set (T.set H nx (some (AObj.cells (List.map (fun c => AV.int .u8 (.ofNat c)) str) e .str))) nx (some (AObj.cells (List.map (fun c => AV.int .u8 (.ofNat c)) str) e .str))) = T.set H nx (some (AObj.cells (List.map (fun c => AV.int .u8 (.ofNat c)) str) e .str)) := set_set _ _ _ _
          rw [this] at hR2
          exact hR2
      · cases h
    · rename_i e1 e b off n c h1 h2
      split at h
      · rename_i cs e' k hsd he hg
        have hsd' := Nat.eq_of_beq_eq_true hsd
        have key : k ≠ .ro ∧ r = .val (.slc b off n c) (H.set b (some (.cells cs e' .str))) nx := by
          cases k <;> simp at h <;> exact ⟨by simp, h.symm⟩
        obtain ⟨hk, rfl⟩ := key
        obtain ⟨l, l1, hO⟩ := hR.dom b _ hg
        obtain ⟨n', c', hv⟩ : ∃ n' c', ρ x = .slice (some (l.at off)) n' c' := by
          cases c <;> simp only [VR] at hx <;> (obtain ⟨l', hx⟩ := hx)
          · obtain ⟨cc, q1, q2, _⟩ := hx; rw [l1] at q1; cases q1; exact ⟨_, _, q2⟩
          · obtain ⟨q1, q2, _⟩ := hx; rw [l1] at q1; cases q1; exact ⟨_, _, q2⟩
        have hO' := hO
        simp only [OR] at hO'
        obtain ⟨xs, fz, g1, g2, g3, g4, g5, g6, g7⟩ := hO'
        have hcalm : Calm xs fz := by
          cases k with
          | own => simp only [ckR] at g6; subst g6; exact .inl rfl
          | str => exact g6
          | ro => exact absurd rfl hk
        obtain ⟨fz', f1, f2⟩ := freeze_row g1 hcalm
        refine ⟨σ, ρ x, w.freeze ⟨l.blk, xs.size, none⟩ 1, _, Sg.le_refl _, fin' ?_, .inl rfl, hx, hR.change hg l1 (fun c e => by simp only [ne_eq, AObj.cells.injEq, not_and]; intro _ _; exact hk) (freeze_touch _ _ _ _) ?_⟩
        · rw [hv]
          have hm : (markStringish (l.at off)).run P w = .ok () (w.freeze ⟨l.blk, xs.size, none⟩ 1) := run_markStringish g1
          have hb : (s == d) = true := by rw [hsd']; simp
          simp only [convert, Sem.run_bind, run_und h1, run_und h2, run_und he, Result.andThen_ok, hb, hm, Sem.run_pure]
        · simp only [OR]
          exact ⟨xs, fz', f1, g2, g3, g4, g5, f2, g7⟩
      · cases h
    · rename_i e h1 h2
      split at h
      · rename_i he
        cases h
        simp only [VR] at hx
        exact fin (u := .string .empty) (by simp only [VR]; exact ⟨_, rfl, rfl⟩) (by rw [hx]; simp only [convert, Sem.run_bind, run_und h1, run_und h2, run_und he, Result.andThen_ok, Conv.bytesToString, Sem.run_pure])
      · cases h
    · rename_i e b off n c h1 h2
      split at h
      · rename_i he
        split at h
        · rename_i cs hcs
          split at h
          · rename_i rr hrr
            split at h
            · rename_i bs hbs
              cases h
              obtain ⟨e', k, hg⟩ := getCells_get hcs
              obtain ⟨l, l1, hO⟩ := hR.dom b _ hg
              obtain ⟨c', hv⟩ : ∃ c', ρ x = .slice (some (l.at off)) n c' := by
                cases c <;> simp only [VR] at hx <;> (obtain ⟨l', hx⟩ := hx)
                · obtain ⟨cc, q1, q2, _⟩ := hx; rw [l1] at q1; cases q1; exact ⟨_, q2⟩
                · obtain ⟨q1, q2, _⟩ := hx; rw [l1] at q1; cases q1; exact ⟨_, q2⟩
              obtain ⟨vs, u1, u2, u3, u4⟩ := hO.row hrr
              obtain ⟨ns, n1, n2, n3⟩ := bytesOf_ok u2 hbs
              rw [n1] at u1
              refine fin (u := .string (ns.foldl (fun r n => r.push (UInt8.ofNat n.toNat)) ByteArray.empty)) ?_ ?_
              · simp only [VR]
                refine ⟨_, rfl, ?_⟩
                rw [push_data, List.map_append, List.map_map, n2]
                show List.map _ ns = _
                refine List.map_congr_left fun q hq => ?_
                have : q.toNat < 256 := n3 _ (by rw [n2]; exact List.mem_map_of_mem hq)
                simp [Nat.mod_eq_of_lt this]
              · rw [hv]
                simp only [convert, Sem.run_bind, run_und h1, run_und h2, run_und he, Result.andThen_ok]
                exact run_bytesToString w _ n c' ns u1
            · cases h
          · cases h
        · cases h
      · cases h
    · cases h
  · cases h

end
end Go.SK

