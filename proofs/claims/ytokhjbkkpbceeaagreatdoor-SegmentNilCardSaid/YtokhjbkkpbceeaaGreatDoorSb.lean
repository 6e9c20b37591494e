/- strings.Builder's copyCheck and String, as the abstract machine sees them. -/
import Derived.Test.YtokhjbkkpbceeaaGreatDoorSa
import Derived.Lib.Builder
import Derived.Lib.UnsafeStr
import Derived.WalkKit
import Derived.Laws.Externs
namespace Go.Em
open Go
set_option linter.unusedSimpArgs false
set_option linter.unusedVariables false

theorem prog_mixed : Go.Proofs.Tryz.prog.follows .mixedOrders = true := by kernel_rfl

/-- A call that enters. -/
theorem lands_enter {P : Program} {f : FuncId} {fn : Func} (hf : P.funcs[f]? = some fn) (hname : (fn.name == "runtime.NumGoroutine") = false) (hb : fn.body.isSome = true) {R : Value → World → Prop} {args : Array Value} {w : World}
    (h : Calls P f args w fun e w' => ∃ v, e = .returned v ∧ R v w') : Lands P R ((callFunc f args).run P w) := by
  obtain ⟨c, hb⟩ := Option.isSome_iff_exists.1 hb
  rw [run_enter hf hname hb]
  exact h

theorem tb_cells : Go.Proofs.Tryz.prog.cellsOf 109 = 2 := by kernel_rfl
theorem tb_size : (Go.Proofs.Tryz.prog.info? 109).map (·.size) = some 2 := by kernel_rfl
theorem lies_head {P : Program} {e : TypeId} {n : Nat} (hc : P.cellsOf e = n) (h0 : n ≠ 0) (count : Nat) (hn : 1 ≤ count) : liesAt P P.depth e count 0 e 1 = true := by
  have hd : P.depth = (2 * (P.types.size + Made.depth) + 1) + 1 := rfl
  rw [hd]
  simp only [liesAt, Bool.or_eq_true]
  left
  rw [hd]
  simp [rowAt, hc, hn, h0, sameLayout]

open Go.RowKit in
set_option maxHeartbeats 1000000 in
set_option maxRecDepth 100000 in
theorem copyCheck_used (b : Nat) (w : World) (h0 : w.cell? ⟨b, 0, none⟩ = some (.pointer (some ⟨b, 0, none⟩))) :
    Calls Go.Proofs.Tryz.prog 89 #[.pointer (some ⟨b, 0, none⟩)] w fun e w' => e = .returned (.tuple #[]) ∧ w' = w := by
  obtain ⟨j, hj, _⟩ := Option.map_eq_some_iff.1 tb_size
  go_enter Go.Proofs.Tryz.func89, Go.Proofs.Tryz.ntmps89
  go_wp2
  rw [Lib.run_neq_ptr_same w _ Go.Proofs.Tryz.underlying107 hj]
  go_wp2
  go_end0
  exact ⟨rfl, rfl⟩


open Go.RowKit in
set_option maxHeartbeats 1000000 in
set_option maxRecDepth 100000 in
theorem copyCheck_fresh (b k : Nat) (w : World) (h0 : w.cell? ⟨b, 0, none⟩ = some (.pointer none)) (hsh : w.shape? b = some (109, k)) (hk : 2 ≤ k) (hfz : w.frozen? ⟨b, 0, none⟩ = false) :
    Calls Go.Proofs.Tryz.prog 89 #[.pointer (some ⟨b, 0, none⟩)] w fun e w' => e = .returned (.tuple #[]) ∧ w' = w.setCell ⟨b, 0, none⟩ (.pointer (some ⟨b, 0, none⟩)) := by
  obtain ⟨j, hj, hjs⟩ := Option.map_eq_some_iff.1 tb_size
  have hl := lies_head tb_cells (by decide) (k / 2) (by omega)
  rw [← tb_cells] at hl
  have hk0 : 0 < k := by omega
  clear hk
  go_enter Go.Proofs.Tryz.func89, Go.Proofs.Tryz.ntmps89
  go_wp2
  rw [Lib.run_to_unsafe w ⟨b, 0, none⟩ Go.Proofs.Tryz.underlying107 Go.Proofs.Tryz.underlying205 hj (by rw [hjs]; decide) hsh hk0]
  simp only [Result.andThen]
  rw [Oper.upon_value]
  go_wp2
  rw [run_callFunc_extern Go.Proofs.Tryz.func126 (by kernel_rfl) (by kernel_rfl) (by kernel_rfl) (e := Extern.AbiNoEscape.same) (by kernel_rfl)]
  rw [Lib.run_noEscape]
  simp only [Result.andThen]
  rw [Oper.upon_value]
  go_wp2
  rw [Lib.run_from_unsafe w ⟨b, 0, none⟩ Go.Proofs.Tryz.underlying205 Go.Proofs.Tryz.underlying107 hj hsh hl]
  simp only [Result.andThen]
  rw [Oper.upon_value]
  go_wp2
  go_end0
  exact ⟨rfl, rfl⟩


theorem setCell_row {w : World} {b o : Nat} {c : Array Value} {el : TypeId} {fr : Nat × Nat} (h : w.heap[b]? = some (.cells c el fr)) (v : Value) : w.setCell ⟨b, o, none⟩ v = w.setRow b (c.setIfInBounds o v) := by
  have hlt : b < w.heap.size := (Array.getElem?_eq_some_iff.1 h).1
  have hv : w.heap[b] = .cells c el fr := (Array.getElem?_eq_some_iff.1 h).2
  unfold World.setCell World.setRow
  congr 1
  apply Array.ext
  · simp
  · intro i h1 h2
    simp only [Array.size_modify] at h1
    rw [Array.getElem_modify, Array.getElem_modify]
    by_cases e : b = i
    · subst e; simp [hv]
    · simp [e]

theorem apply_put (m : Mem) (a : Nat) (b : Option Blk) (v : AV) : (m.apply ⟨v, [(a, b)], []⟩) = m.put a b := by
  rw [Mem.apply_eq]
  simp [Mem.puts]

/-- What is written to one block of what was found. -/
theorem callPost_set {ι : Emb} {H : Hv} {w : World} (hH : HR ι H w) {a : Nat} {k k' : Blk} (hk : H.look a = some k) (hro : k.ro = false) (he : k'.el = k.el) (hs : k'.es = k.es) (hro' : k'.ro = false) (hbd : ∀ v ∈ k'.cells, Bd H.n v)
    {c' : Array Value} (hc : ∀ (c : Array Value) (el : TypeId) (fr : Nat × Nat), w.heap[(ι a).b]? = some (.cells c el fr) → c'.size = c.size ∧ k'.cells.length ≤ c'.size ∧ ∀ (j : Nat) (v : AV), k'.cells[j]? = some v → ∃ cv : Value, c'[j]? = some cv ∧ VR ι v cv)
    {v : AV} {cv : Value} (hv : VR ι v cv) (hb : Bd H.n v) : CallPost ι H w ⟨v, [(a, some k')], []⟩ cv (w.setRow (ι a).b c') := by
  have hfr := fresh_hv hH.dom
  have hH' : HR ι (Mem.hv ⟨H.n, H.look, [], []⟩) w := by rw [hfr]; exact hH
  have hk2 : (⟨H.n, H.look, [], []⟩ : Mem).look a = some k := by
    have := congrArg (fun x => Hv.look x a) hfr
    simp only [Mem.hv] at this
    rw [this]; exact hk
  have q := hH'.set (k' := k') hk2 hro he hs hro' (by
    have : (⟨H.n, H.look, [], []⟩ : Mem).top = H.n := rfl
    rw [this]; exact hbd) hc
  have e : (Mem.put ⟨H.n, H.look, [], []⟩ a (some k')).hv = H.after ⟨v, [(a, some k')], []⟩ := by
    rw [← apply_put _ _ _ v, Mem.apply_hv, hfr]
  rw [e, hfr] at q
  exact ⟨ι, q.2, q.1, hv, hb⟩

set_option maxRecDepth 100000 in
theorem copyCheck1_fns {H : Hv} {a : Nat} {x : AV} (hk : H.look a = some ⟨[.p none, x], 109, 2, false⟩) :
    FnS Go.Proofs.Tryz.prog 89 [.p (some (a, 0))] H ⟨.tp [], [(a, some ⟨[.p (some (a, 0)), x], 109, 2, false⟩)], []⟩ := by
  intro ι w cargs hH hargs hbd
  obtain ⟨a1, l1, e1, v1, hv⟩ := hargs.inv
  have e4 := hv.inv0
  subst e4
  have := arr_of e1
  subst this
  have hbr := hH.blk a _ hk
  obtain ⟨h0, hes, hb, c, el, fr, h1, h2, h3, h4⟩ := hbr
  obtain ⟨rfl, h2b, h2c, h2d⟩ := h2 rfl
  simp only at h2b
  subst h2b
  cases v1
  rename_i hok
  rw [h2c] at h3 h4 ⊢
  simp only [Nat.zero_add, List.length_cons, List.length_nil, Nat.reduceAdd] at h3 h4 ⊢
  obtain ⟨y0, c0, v0⟩ := h4 0 _ rfl
  obtain ⟨y1, c1, v1⟩ := h4 1 _ rfl
  cases v0
  refine lands_enter Go.Proofs.Tryz.func89 (by kernel_rfl) (by kernel_rfl) ?_
  refine (copyCheck_fresh (ι a).b c.size w (cell_of h1 c0) (by simp [World.shape?, h1]) h3 (by simp [World.frozen?, h1])).mono fun e w' ⟨he, hw⟩ => ⟨_, he, ?_⟩
  subst hw
  rw [setCell_row h1]
  refine callPost_set (k' := ⟨[.p (some (a, 0)), x], 109, 2, false⟩) hH hk rfl rfl rfl rfl (fun v hv => ?_) (fun c2 el2 fr2 hh => ?_) (VR.tp [] #[] rfl (by intro k x y hx; simp at hx)) (fun r hr => by cases hr with | tp _ x hx _ => cases hx)
  · simp only [List.mem_cons, List.not_mem_nil, or_false] at hv
    rcases hv with rfl | rfl
    · exact bd_p (hH.dom a _ hk)
    · exact hb _ (by simp)
  · rw [h1] at hh; cases hh
    refine ⟨by simp, by simpa using h3, fun j v hj => ?_⟩
    match j, hj with
    | 0, hj =>
      simp at hj; subst hj
      refine ⟨_, by rw [Array.getElem?_setIfInBounds, if_pos rfl, if_pos (by omega)], ?_⟩
      have e := VR.p (ι := ι) a 0 hok
      rw [h2c] at e
      exact e
    | 1, hj =>
      simp at hj; subst hj
      exact ⟨y1, by rw [Array.getElem?_setIfInBounds, if_neg (by omega)]; exact c1, v1⟩

set_option maxRecDepth 100000 in
theorem copyCheck2_fns {H : Hv} {a : Nat} {x : AV} (hk : H.look a = some ⟨[.p (some (a, 0)), x], 109, 2, false⟩) :
    FnS Go.Proofs.Tryz.prog 89 [.p (some (a, 0))] H ⟨.tp [], [], []⟩ := by
  intro ι w cargs hH hargs hbd
  obtain ⟨a1, l1, e1, v1, hv⟩ := hargs.inv
  have e4 := hv.inv0
  subst e4
  have := arr_of e1
  subst this
  have hbr := hH.blk a _ hk
  obtain ⟨h0, hes, hb, c, el, fr, h1, h2, h3, h4⟩ := hbr
  obtain ⟨rfl, h2b, h2c, h2d⟩ := h2 rfl
  cases v1
  rw [h2c] at h3 h4 ⊢
  simp only [Nat.zero_add] at h3 h4 ⊢
  obtain ⟨y0, c0, v0⟩ := h4 0 _ rfl
  cases v0
  rw [h2c] at c0
  refine lands_enter Go.Proofs.Tryz.func89 (by kernel_rfl) (by kernel_rfl) ?_
  refine (copyCheck_used (ι a).b w (cell_of h1 c0)).mono fun e w' ⟨he, hw⟩ => ⟨_, he, ?_⟩
  subst hw
  refine ⟨ι, ?_, ?_, VR.tp [] #[] rfl (by intro k x y hx; simp at hx), fun r hr => by cases hr with | tp _ x hx _ => cases hx⟩
  · rw [after_nil hH.dom]; exact .refl _ _ _
  · rw [after_nil hH.dom]; exact hH
end Go.Em
