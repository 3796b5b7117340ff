/- DirKeeps: what is answered is new memory: the law answers true for every number, whatever the order of maps, the capacities that append gives, and the addresses. -/
import Derived.Test.YtlnhefoegllpmaaGreatDoorDkA
import Derived.Test.YtlnhefoegllpmaaGreatDoorDkB
import Derived.Test.YtlnhefoegllpmaaGreatDoorDkC
import Derived.Test.YtlnhefoegllpmaaGreatDoorDkD
import Derived.Test.YtlnhefoegllpmaaGreatDoorDkE
import Derived.Test.YtlnhefoegllpmaaGreatDoorDkF
import Derived.Test.YtlnhefoegllpmaaGreatDoorDkG
import Derived.Test.YtlnhefoegllpmaaGreatDoorDkH
import Derived.Test.YtlnhefoegllpmaaGreatDoorDkI
import Derived.Test.YtlnhefoegllpmaaGreatDoorDkJ
import Derived.Test.YtlnhefoegllpmaaGreatDoorDkK
import Derived.Test.YtlnhefoegllpmaaGreatDoorDkL
import Derived.Test.YtlnhefoegllpmaaGreatDoorDkM
import Derived.Test.YtlnhefoegllpmaaGreatDoorCards
import Derived.Test.YtlnhefoegllpmaaGreatDoorTie
import Derived.WalkKit
import Derived.ProofKit
import Derived.OpenShut
import Derived.Deep.DeepHandedRow
import Derived.Lib.LaidTab
namespace Go.Proofs.YtlnhefoegllpmaaGreatDoor
open Go.ChangeShapes Go.WideShapes Go.ChangeAt Go.RowKit Go.SK

theorem own : ownKnob Tryz.prog.godebug = none := by kernel_rfl

/-- 'post' where nothing that was there has changed -/
theorem post_of_below {H : Type} {enc : TypeId × Value → H} {P : Program} {f : Func} {s : ChangeSpec} {apart fresh handsOn again : Bool} {W W' : World} {args : Array Value} {v : Value} {ds gs : List (DataW H)} {before pa pv : List MemPlace}
    (hW : DataW.Whole enc P f.params.toList s.vars apart W args.toList ds gs before)
    (hres : ∀ (b : Nat) (sp : Nat → Bool) (hd : Bool), DataW.TrodAll enc P W' b sp hd f.resultTypes.toList (v.resultList f.resultTypes.size) (s.fn H (ds ++ gs)).results [])
    (hargs : ∀ sp : Nat → Bool, (∀ p ∈ before, sp p.block = true) → DataW.TrodAll enc P W' 0 sp true f.params.toList args.toList (s.fn H (ds ++ gs)).args pa)
    (hvars : ∀ sp : Nat → Bool, (∀ p ∈ before, sp p.block = true) → DataW.TrodVars enc P W' sp s.vars (s.fn H (ds ++ gs)).vars pv)
    (hps : before = pa ++ pv) (hb : Below W.heap.size W W')
    (hok : ∀ (j : Nat) (t : TypeId) (r : Value), f.resultTypes[j]? = some t → (v.resultList f.resultTypes.size)[j]? = some r → Value.okWide P W' .any 0 t r) :
    s.post enc P f apart fresh handsOn again W args v W' := by
  have hold : ∀ p ∈ before, (fun b => decide (b < W.heap.size)) p.block = true := fun p hp => by simpa using hW.lt p hp
  have hlt := hW.lt
  refine ⟨ds, gs, before, [], pa, pv, hW, hres _ _ _, hargs _ hold, hvars _ hold, hb.frame _, fun _ => ?_⟩
  obtain ⟨_, _, _, _, _, hz, hn⟩ := hW
  refine ⟨hok, _, _, ([] ++ pa) ++ pv, ⟨[] ++ pa, pv, trodAll_append (hargs _ (fun _ _ => rfl)) (hres _ _ _), hvars _ (fun _ _ => rfl), rfl, ?_, ?_⟩, ?_⟩
  · intro b off hp
    have hp' : MemPlace.cell b off ∈ before := by rw [hps]; simpa using hp
    rw [hb.frozen (hlt _ hp')]
    exact hz b off hp'
  · intro ha
    have := hn ha
    rw [hps] at this
    simpa using this
  · intro p hp _
    rw [hps]
    simpa using hp

theorem walk (n : Int) (w : World) : CallsIn Fence.wide 0 Tryz.prog 3 #[.int .i64 n] w fun e w' => e = .returned (.bool true) ∧ Below w.heap.size w w' := by
  have hv : VRs (fun _ => none) [AV.int .i64 n] [.int .i64 n] := by simp only [VRs, VR]; exact ⟨_, _, rfl, rfl, rfl⟩
  have g : goes 3 [.int .i64 n] := by
    cases n with
    | negSucc m => exact keeps_neg m
    | ofNat m =>
      match m with
      | 0 => exact keeps_0
      | 1 => exact keeps_1
      | 2 => exact keeps_2
      | 3 => exact keeps_3
      | 4 => exact keeps_4
      | 5 => exact keeps_5
      | 6 => exact keeps_6
      | 7 => exact keeps_7
      | 8 => exact keeps_8
      | 9 => exact keeps_9
      | 10 => exact keeps_10
      | 11 => exact keeps_11
      | 12 => exact keeps_12
      | 13 => exact keeps_13
      | 14 => exact keeps_14
      | 15 => exact keeps_15
      | 16 => exact keeps_16
      | 17 => exact keeps_17
      | 18 => exact keeps_18
      | 19 => exact keeps_19
      | 20 => exact keeps_20
      | m + 21 => exact keeps_big m
  exact goes_calls hv g w

set_option maxRecDepth 100000 in
theorem contract (H : Type) (enc : TypeId × Value → H) (W : World) (base : Nat) (args : Array Value) (ds gs : List (DataW H)) (before : List MemPlace)
    (hval : ∀ (j : Nat) t v, Tryz.f3.params[j]? = some t → args[j]? = some v → Value.okWide Tryz.prog W .any base t v)
    (hW : DataW.Whole enc Tryz.prog Tryz.f3.params.toList Rows.dirKeepsSpec.vars false W args.toList ds gs before) :
    Calls Tryz.prog 3 args W fun e W' => ∃ v, e = .returned v ∧ Rows.dirKeepsSpec.post enc Tryz.prog Tryz.f3 false true false false W args v W' := by
  have hW' := hW
  obtain ⟨p, q, hA0, hV, rfl, hfz, hnd⟩ := hW
  have hA : DataW.TrodAll enc Tryz.prog W 0 (fun _ => true) true Tryz.f3.params.toList args.toList ds p := hA0
  rw [Tryz.params3] at hA hval
  obtain ⟨v0, vs0, d0, ds0, p0, q0, hargs, rfl, rfl, h0, r0⟩ := trodAll_cons hA
  obtain ⟨rfl, rfl, rfl⟩ := trodAll_nil r0
  obtain rfl : args = #[v0] := by cases args; simp_all
  obtain ⟨rfl, rfl⟩ := trodVars_none hV
  obtain ⟨n, rfl, rfl, rfl, hwf⟩ := open_int Tryz.underlying3 (hval 0 3 v0 rfl rfl) h0
  clear hA0
  simp only [List.append_nil] at hW'
  refine (callsIn_wide.1 (walk n W)).mono fun e W' ⟨he, hg⟩ => ?_
  subst he
  exact ⟨_, rfl, post_of_below (pa := []) (pv := []) hW' (fun _ _ _ => trodAll_cons_mk (shut_bool Tryz.underlying4 _) trodAll_mk0) (fun _ _ => trodAll_cons_mk (shut_int Tryz.underlying3 hwf) trodAll_mk0) (fun _ _ => rfl) rfl
    hg (ok_one (by kernel_rfl) rfl (okWide_bool_mk Tryz.underlying4 _))⟩
end Go.Proofs.YtlnhefoegllpmaaGreatDoor
