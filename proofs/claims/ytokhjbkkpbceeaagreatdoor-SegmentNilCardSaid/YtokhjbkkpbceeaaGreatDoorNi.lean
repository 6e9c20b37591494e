/- SegmentNil returns true for any box and any object, and leaves what was there as it was. No conditions. -/
import Derived.Test.YtokhjbkkpbceeaaGreatDoorLb
import Derived.Test.YtokhjbkkpbceeaaGreatDoorKc
namespace Go.Proofs.YtokhjbkkpbceeaaGreatDoor.segmentNil
open Go Go.Em Go.ChangeShapes Go.WideShapes Go.ChangeAt Go.RowKit

theorem own : ownKnob Tryz.prog.godebug = none := by kernel_rfl
theorem laidOut : laidOutB Tryz.prog = true := by kernel_rfl
theorem cellsBox : Tryz.prog.cellsOf 63 = 6 := by kernel_rfl

set_option maxRecDepth 100000 in
theorem contract (H : Type) (enc : TypeId × Value → H) (W : World) (base : Nat) (args : Array Value) (ds gs : List (DataW H)) (before : List MemPlace)
    (hval : ∀ (j : Nat) t v, Tryz.f8.params[j]? = some t → args[j]? = some v → Value.okWide Tryz.prog W .any base t v)
    (hW : DataW.Whole enc Tryz.prog Tryz.f8.params.toList Rows.segmentNilSpec.vars false W args.toList ds gs before) :
    Calls Tryz.prog 8 args W fun e W' => ∃ v, e = .returned v ∧ Rows.segmentNilSpec.post enc Tryz.prog Tryz.f8 false true false false W args v W' := by
  have hW' := hW
  obtain ⟨p, q, hA, hV, rfl, hfz, hnd⟩ := hW'
  obtain ⟨rfl, rfl⟩ := trodVars_none hV
  rw [Tryz.params8] at hA hval
  obtain ⟨v0, vs0, d0, ds0, p0, q0, hargs, rfl, rfl, h0, r0⟩ := trodAll_cons hA
  obtain ⟨v1, vs1, d1, ds1, p1, q1, rfl, rfl, rfl, h1, r1⟩ := trodAll_cons r0
  obtain ⟨rfl, rfl, rfl⟩ := trodAll_nil r1
  obtain rfl : args = #[v0, v1] := by cases args; simp_all
  obtain ⟨cs, rfl, hcs⟩ := okWide_struct Tryz.underlying63 (hval 0 63 v0 rfl rfl)
  obtain ⟨n, rfl⟩ := okWide_int Tryz.underlying3 (hval 1 3 v1 rfl rfl)
  rw [cellsBox] at hcs
  obtain ⟨c, hc⟩ : ∃ c, Tryz.f8.body = some c := Option.isSome_iff_exists.1 (by kernel_rfl)
  refine Calls.mono (calls_of_fns Tryz.func8 (by kernel_rfl) hc (ι := fun _ => ⟨0, 0, 0, 0, false⟩) (nil_fns n hvE) ⟨fun i k h => (by cases h), fun i k h => (by cases h), fun i j k l h => (by cases h)⟩ (fun i k h => by cases h) ?_ ?_) ?_
  · refine VRs.cons (.ag _ _ (by simp [hcs]) fun k x y hx hy => ?_) (VRs.cons (.i _ _) (VRs.nil _))
    have : x = .u := by
      have := List.mem_of_getElem? hx
      simpa using this
    subst this
    exact .u _
  · intro x hx r hr
    simp only [List.mem_cons, List.not_mem_nil, or_false] at hx
    rcases hx with rfl | rfl
    · cases hr with
      | ag _ x hx hr =>
        have : x = .u := by simpa using hx
        subst this
        cases hr
    · cases hr
  · rintro e W' ⟨he, hb⟩
    exact ⟨_, he, law_post laidOut Tryz.underlying4 (by kernel_rfl) rfl (by kernel_rfl) hW rfl rfl rfl hb⟩

def wArgs : Array Value := #[.agg #[.int .i64 0, .int .i64 0, .int .i64 0, .int .i64 0, .int .i64 0, .int .i64 0], .int .i64 0]
theorem laid_met (os : Os) : laidMet Tryz.prog Rows.segmentNilRow.laid ((laidWorld os #[]).forCall (fun _ _ => 0) ⟨#[], wArgs, []⟩).memory :=
  laidMet_of_run' 8 (by kernel_rfl) (by kernel_rfl)
theorem reads (os : Os) {H : Type} (enc : TypeId × Value → H) : ∃ places, DataW.whole enc Tryz.prog ((laidWorld os #[]).forCall (fun _ _ => 0) ⟨#[], wArgs, []⟩).memory Tryz.f8.params.toList Rows.segmentNilSpec.vars false wArgs.toList 8 =
    some ([.agg [.lit (.int .i64 0), .lit (.int .i64 0), .lit (.int .i64 0), .lit (.int .i64 0), .lit (.int .i64 0), .lit (.int .i64 0)], .lit (.int .i64 0)], [], places) :=
  ⟨[], by kernel_rfl⟩

set_option maxRecDepth 100000 in
theorem lifted (os : Os) (started : os.Started) (H : Type) (enc : TypeId × Value → H) (F : Stop.Interp) :
    ReturnsInHanded {} Tryz.checked os 8 .any ((OpenSpec.ofChange Rows.segmentNilSpec).preRow enc Tryz.prog Tryz.f8 Rows.segmentNilRow.domain false Rows.segmentNilRow.laid) (((OpenSpec.ofChange Rows.segmentNilSpec).at F).post enc Tryz.prog Tryz.f8 false true false false) := by
  obtain ⟨places, hx⟩ := reads os enc
  refine returnsInHanded_of_row (C := Tryz.checked) (s := OpenSpec.ofChange Rows.segmentNilSpec) own started (by kernel_rfl) Tryz.func8
    (witness_row_at (enc := enc) (C := Tryz.checked) false (laidWorld os #[]) wArgs rfl (by kernel_rfl) (by kernel_rfl) (by kernel_rfl)
      (OpenSpec.preRow_of_cond 8 hx (by kernel_rfl) (fun k hk => by cases hk) (by kernel_rfl) (laid_met os))) ?_
  intro W base args ds gs before hval hW _ _ _ hL _ _
  exact contract H enc W base args ds gs before hval hW

set_option maxRecDepth 100000 in
theorem said : Rows.SegmentNilSaid :=
  OpenClaim.holds_of_cond 8 Tryz.f8 rfl rfl rfl rfl rfl rfl rfl ⟨rfl, rfl, rfl, rfl, rfl⟩ rfl rfl rfl rfl rfl (by kernel_rfl) Tryz.func8 (by kernel_rfl)
    (of_decide_eq_true (by kernel_rfl)) (by unfold Func.isWrapper; first | (rw [if_pos (by decide +kernel)]; kernel_rfl) | (rw [if_neg (by decide +kernel)]; exact ⟨rfl, rfl⟩))
    (fun os started H enc _ F => by rw [OpenClaim.pre_eq_preRow]; exact lifted os started H enc F)

set_option maxRecDepth 100000 in
theorem plain (f : FuncId) (fn : Func) (hf : Tryz.pinned.checked.prog.funcNamed "viator/viatorlaw37.SegmentNil" = some f) (hfn : Tryz.pinned.checked.prog.funcs[f]? = some fn) :
    false = Tryz.pinned.checked.prog.looks [] ∧ ∀ (j : Nat) t, fn.params[j]? = some t → Tryz.pinned.checked.prog.wantsStandIn t = false := by
  obtain rfl : f = 8 := Option.some.inj ((show Tryz.prog.funcNamed "viator/viatorlaw37.SegmentNil" = some 8 by kernel_rfl).symm.trans hf) |>.symm
  obtain rfl : fn = Tryz.f8 := (Option.some.inj (Tryz.func8.symm.trans hfn)).symm
  refine ⟨by kernel_rfl, fun j t ht => ?_⟩
  rw [Tryz.params8] at ht
  have := Array.mem_of_getElem? ht
  simp only [List.mem_toArray, List.mem_cons, List.not_mem_nil, or_false] at this
  rcases this with rfl | rfl
  · exact (show Tryz.prog.wantsStandIn 63 = false by kernel_rfl)
  · exact (show Tryz.prog.wantsStandIn 3 = false by kernel_rfl)
end Go.Proofs.YtokhjbkkpbceeaaGreatDoor.segmentNil
namespace Go.Proofs.YtokhjbkkpbceeaaGreatDoor
open Go Go.Em
set_option maxRecDepth 100000 in
theorem segmentNil_card : Rows.SegmentNilCardSaid :=
  Claim7.holds_tied_plain_at .later [] _ _ _ _ segmentNil.said (fun _ h => by cases h) (by kernel_rfl) (fun _ h => by cases h) segmentNil_row_tie rfl ⟨rfl, rfl⟩ (by kernel_rfl) rfl segmentNil.plain (by kernel_rfl)
#print axioms segmentNil_card
end Go.Proofs.YtokhjbkkpbceeaaGreatDoor
