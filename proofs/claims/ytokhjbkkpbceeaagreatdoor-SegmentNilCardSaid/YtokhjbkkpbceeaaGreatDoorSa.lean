/- The library's own functions that the model stands in for: Add64, cmpstring, NoEscape. -/
import Derived.Test.YtokhjbkkpbceeaaGreatDoorHb
import Derived.Test.YtokhjbkkpbceeaaGreatDoorProg
import Derived.Lib.Bytealg
namespace Go.Em
open Go
set_option linter.unusedSimpArgs false
set_option linter.unusedVariables false

/-- A stand-in that leaves the world as it is. -/
theorem extern_fns {P : Program} {f : FuncId} {fn : Func} {e : Array Value → Sem Value} (hf : P.funcs[f]? = some fn) (hname : (fn.name == "runtime.NumGoroutine") = false)
    (hb : fn.body.isNone = true) (hn : Extern.findNext fn = none) (he : Extern.find fn = some e) {args : List AV} {v : AV} (hv : v.refs = [])
    (h : ∀ (ι : Emb) (w : World) (cargs : Array Value), VRs ι args cargs.toList → ∃ cv, (e cargs).run P w = .ok cv w ∧ VR ι v cv) (H : Hv) : FnS P f args H ⟨v, [], []⟩ := by
  intro ι w cargs hH hargs hbd
  obtain ⟨cv, h1, h2⟩ := h ι w cargs hargs
  rw [run_callFunc_extern hf hname hb hn he, h1]
  show CallPost ι H w ⟨v, [], []⟩ cv w
  refine ⟨ι, ?_, ?_, h2, fun r hr => by have := hr.refs; rw [hv] at this; cases this⟩
  · rw [after_nil hH.dom]; exact .refl _ _ _
  · rw [after_nil hH.dom]; exact hH

theorem VRs.inv {ι : Emb} {x : AV} {xs : List AV} {l : List Value} (h : VRs ι (x :: xs) l) : ∃ y ys, l = y :: ys ∧ VR ι x y ∧ VRs ι xs ys := by
  cases l with
  | nil => have := h.1; simp at this
  | cons y ys => exact ⟨y, ys, rfl, h.head, h.tail⟩
theorem VRs.inv0 {ι : Emb} {l : List Value} (h : VRs ι [] l) : l = [] := by have := h.1; simpa using this.symm
theorem arr_of {cs : Array Value} {l : List Value} (h : cs.toList = l) : cs = l.toArray := by rw [← h]

theorem add64_fns {x y c : Int} (hx : 0 ≤ x) (hy : 0 ≤ y) (hc0 : 0 ≤ c) (hc : c ≤ 1) (H : Hv) : FnS Go.Proofs.Tryz.prog 156 [.i .u64 x, .i .u64 y, .i .u64 c] H
    ⟨.tp [.i .u64 ((x + y + c) % 18446744073709551616), .i .u64 ((x + y + c) / 18446744073709551616)], [], []⟩ := by
  refine extern_fns (fn := Go.Proofs.Tryz.f156) (e := add64Entry) (by kernel_rfl) (by kernel_rfl) (by kernel_rfl) (by kernel_rfl) (by kernel_rfl) rfl (fun ι w cargs hv => ?_) H
  obtain ⟨a1, l1, e1, v1, hv⟩ := hv.inv
  obtain ⟨a2, l2, e2, v2, hv⟩ := hv.inv
  obtain ⟨a3, l3, e3, v3, hv⟩ := hv.inv
  have e4 := hv.inv0
  subst e4 e3 e2
  have := arr_of e1
  subst this
  cases v1; cases v2; cases v3
  exact ⟨_, run_add64 x y c hx hy hc0 hc w, (VRs.cons (.i _ _) (VRs.cons (.i _ _) (VRs.nil ι))).tp⟩
theorem cmp_fns {x y : List UInt8} (H : Hv) : FnS Go.Proofs.Tryz.prog 221 [.s x, .s y] H ⟨.i .i64 (Lib.compareBytes x y), [], []⟩ := by
  refine extern_fns (fn := Go.Proofs.Tryz.f221) (e := Extern.BytealgCompare.compare) (by kernel_rfl) (by kernel_rfl) (by kernel_rfl) (by kernel_rfl) (by kernel_rfl) rfl (fun ι w cargs hv => ?_) H
  obtain ⟨a1, l1, e1, v1, hv⟩ := hv.inv
  obtain ⟨a2, l2, e2, v2, hv⟩ := hv.inv
  have e4 := hv.inv0
  subst e4 e2
  have := arr_of e1
  subst this
  cases v1; cases v2
  exact ⟨_, Lib.run_compareString _ _ w, .i _ _⟩
end Go.Em
