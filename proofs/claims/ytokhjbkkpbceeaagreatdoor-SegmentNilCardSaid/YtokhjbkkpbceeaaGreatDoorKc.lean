/- SegmentNil: what its call comes to. -/
import Derived.Test.YtokhjbkkpbceeaaGreatDoorKb
namespace Go.Em
open Go
set_option maxRecDepth 100000
def kO : Orc := fun f args _ => bif Nat.beq f 9 && (match args with | [] => true | _ => false) then some ⟨.b true, [], []⟩ else none
theorem kO_ok : SpecOK Go.Proofs.Tryz.prog kO := by
  intro f args H c h
  unfold kO at h
  by_cases hf : f = 9
  · subst hf
    cases args with
    | nil =>
      simp only [Nat.beq_refl, Bool.and_self, cond_true, Option.some.injEq] at h
      rw [← h]
      exact known_fns H
    | cons a r => simp at h
  · rw [beqF hf] at h; simp at h
theorem nil_chk (n : Int) : isC ⟨.b true, [], []⟩ (orcTF tab (orO kO spec0) mt 100000 20 8 [.ag [.u, .u, .u, .u, .u, .u], .i .i64 n] hvE) = true := by kernel_rfl
theorem nil_fns (n : Int) (H : Hv) : FnS Go.Proofs.Tryz.prog 8 [.ag [.u, .u, .u, .u, .u, .u], .i .i64 n] H ⟨.b true, [], []⟩ :=
  FnS.lift (me_ok (e := ⟨8, [.ag [.u, .u, .u, .u, .u, .u], .i .i64 n], [], ⟨.b true, [], []⟩⟩) tab_ok (orO_ok kO_ok spec0_ok) mt_ok prog_mixed (nil_chk n)) rfl rfl H
end Go.Em
