/- strings.Builder's String, as the abstract machine sees it. -/
import Derived.Test.YtokhjbkkpbceeaaGreatDoorSb
import Derived.RegionTactic
namespace Go.Em
open Go
set_option linter.unusedSimpArgs false
set_option linter.unusedVariables false

theorem tu_cells : Go.Proofs.Tryz.prog.cellsOf 5 = 1 := by kernel_rfl

open Go.RowKit in
set_option maxHeartbeats 1000000 in
set_option maxRecDepth 100000 in
theorem string_row (b g len cap : Nat) (l : List UInt8) (w : World) (c1 : w.drew.cell? ⟨b, 1, none⟩ = some (.slice (some ⟨g, 0, none⟩) len cap))
    (hSD : (Builtin.unsafeSliceData_ #[93] 160 #[.slice (some ⟨g, 0, none⟩) len cap]).run Go.Proofs.Tryz.prog w.drew = .ok (.pointer (some ⟨g, 0, none⟩)) w.drew)
    (hUS : (Builtin.unsafeString_ #[160, 3] 9 #[.pointer (some ⟨g, 0, none⟩), .int .i64 len]).run Go.Proofs.Tryz.prog w.drew = .ok (.string ⟨l.toArray⟩) (w.drew.freeze ⟨g, 0, none⟩ l.length)) :
    Calls Go.Proofs.Tryz.prog 55 #[.pointer (some ⟨b, 0, none⟩)] w fun e w' => e = .returned (.string ⟨l.toArray⟩) ∧ w' = w.drew.freeze ⟨g, 0, none⟩ l.length := by
  go_enter Go.Proofs.Tryz.func55, Go.Proofs.Tryz.ntmps55
  go_wp2
  go_region
  all_goals (go_wp2; go_ret; exact ⟨rfl, rfl⟩)

open Go.RowKit in
set_option maxHeartbeats 1000000 in
set_option maxRecDepth 100000 in
theorem string_nil (b : Nat) (w : World) (c1 : w.drew.cell? ⟨b, 1, none⟩ = some (.slice none 0 0)) :
    Calls Go.Proofs.Tryz.prog 55 #[.pointer (some ⟨b, 0, none⟩)] w fun e w' => e = .returned (.string ⟨#[]⟩) ∧ w' = w.drew := by
  have hUS := fun (q : Option Addr) => Lib.run_unsafeString_none (P := Go.Proofs.Tryz.prog) w.drew 160 3 9 q
  have hSD : (Builtin.unsafeSliceData_ #[93] 160 #[.slice none 0 0]).run Go.Proofs.Tryz.prog w.drew = .ok (.pointer none) w.drew := rfl
  go_enter Go.Proofs.Tryz.func55, Go.Proofs.Tryz.ntmps55
  go_wp2
  go_region
  all_goals (go_wp2; go_ret; exact ⟨rfl, rfl⟩)

theorem look_after_one {H : Hv} {b : Nat} {k : Option Blk} {v : AV} (hb : b < H.n) (hdom : ∀ i k, H.look i = some k → i < H.n) (i : Nat) : (H.after ⟨v, [(b, k)], []⟩).look i = if i = b then k else H.look i := by
  have hfr := fresh_hv hdom
  have e : (Mem.put ⟨H.n, H.look, [], []⟩ b k).hv = H.after ⟨v, [(b, k)], []⟩ := by
    rw [← apply_put _ _ _ v, Mem.apply_hv, hfr]
  rw [← e]
  show (Mem.put ⟨H.n, H.look, [], []⟩ b k).look i = _
  rw [Mem.look_put _ _ _ _ (by show b < H.n + 0; omega)]
  have e2 := congrArg (fun x => Hv.look x i) hfr
  simp only [Mem.hv] at e2
  rw [e2]
  by_cases h : b = i
  · subst h; simp
  · rw [if_neg h, if_neg (fun e => h e.symm)]

/-- A block that is only read from now on. -/
theorem callPost_ro {ι : Emb} {H : Hv} {w w' : World} (hH : HR ι H w) {b : Nat} {q : Blk} (hq : H.look b = some q) (hro : q.ro = false) (hs : w'.heap.size = w.heap.size) (ht : w'.tape = w.tape) (hos : w'.os = w.os) (hout : w'.output = w.output)
    (hother : ∀ i, i ≠ (ι b).b → w'.heap[i]? = w.heap[i]?) (hb : ∀ c el fr, w.heap[(ι b).b]? = some (.cells c el fr) → ∃ fr', w'.heap[(ι b).b]? = some (.cells c el fr')) {v : AV} {cv : Value} (hv : VR ι v cv) (hbd : Bd H.n v) :
    CallPost ι H w ⟨v, [(b, some { q with ro := true })], []⟩ cv w' := by
  have hbn := hH.dom b q hq
  have hlk := look_after_one (v := v) (k := some { q with ro := true }) hbn hH.dom
  have hn : (H.after ⟨v, [(b, some { q with ro := true })], []⟩).n = H.n := rfl
  refine ⟨ι, ⟨fun _ _ => rfl, Nat.le_refl _, by rw [hs]; exact Nat.le_refl _, ht, hos, hout, fun i hi hf => hother i (fun e => hf b q hq hro e.symm), fun i k hi => ?_⟩, ⟨fun i k hi => ?_, fun i k hi => ?_, fun i j k l hi hj hr hne => ?_⟩, hv, hbd⟩
  · rw [hlk] at hi
    by_cases e : i = b
    · subst e; exact .inr ⟨i, q, hq, fun _ => hro, rfl⟩
    · rw [if_neg e] at hi; exact .inr ⟨i, k, hi, id, rfl⟩
  · rw [hlk] at hi
    rw [hn]
    by_cases e : i = b
    · subst e; exact hbn
    · rw [if_neg e] at hi; exact hH.dom i k hi
  · rw [hlk] at hi
    rw [hn]
    by_cases e : i = b
    · subst e
      rw [if_pos rfl] at hi
      cases hi
      obtain ⟨h0, hes, hbd', c, el, fr, h1, h2, h3, h4⟩ := hH.blk i q hq
      obtain ⟨fr', h1'⟩ := hb c el fr h1
      exact ⟨h0, hes, hbd', c, el, fr', h1', fun h => (by cases h), h3, h4⟩
    · rw [if_neg e] at hi
      exact (hH.blk i k hi).world (hother _ (fun h => hH.inj b i q k hq hi hro (fun h => e h.symm) h.symm))
  · rw [hlk] at hi hj
    by_cases e1 : i = b
    · subst e1
      rw [if_pos rfl] at hi
      cases hi
      cases hr
    · rw [if_neg e1] at hi
      by_cases e2 : j = b
      · subst e2
        exact hH.inj i j k q hi hq hr hne
      · rw [if_neg e2] at hj
        exact hH.inj i j k l hi hj hr hne

set_option maxRecDepth 100000 in
theorem stringNil_fns {H : Hv} {a : Nat} {x : AV} (hk : H.look a = some ⟨[x, .sl none 0 0 true], 109, 2, false⟩) :
    FnS Go.Proofs.Tryz.prog 55 [.p (some (a, 0))] H ⟨.s [], [], []⟩ := by
  intro ι w cargs hH hargs hbd
  obtain ⟨a1, l1, e1, v1, hv⟩ := hargs.inv
  have e4 := hv.inv0
  subst e4
  have := arr_of e1
  subst this
  obtain ⟨h0, hes, hb, c, el, fr, h1, h2, h3, h4⟩ := hH.blk a _ hk
  cases v1
  obtain ⟨y1, c1, v1⟩ := h4 1 _ rfl
  cases v1
  obtain ⟨rfl, h2b, h2c, h2d⟩ := h2 rfl
  rw [h2c] at c1 ⊢
  simp only [Nat.zero_add] at c1 ⊢
  refine lands_enter Go.Proofs.Tryz.func55 (by kernel_rfl) (by kernel_rfl) ?_
  refine (string_nil (ι a).b w (cell_of (w := w.drew) h1 c1)).mono fun e w' ⟨he, hw⟩ => ⟨_, he, ?_⟩
  subst hw
  refine ⟨ι, ?_, ?_, .s [], fun r hr => by cases hr⟩
  · rw [after_nil hH.dom]; exact (Ext.refl _ _ _).drew
  · rw [after_nil hH.dom]; exact hH.drew

set_option maxRecDepth 100000 in
theorem string_fns {H : Hv} {a b len cap : Nat} {x : AV} {ex : Bool} {l : List UInt8} {cells : List AV} (hk : H.look a = some ⟨[x, .sl (some (b, 0)) len cap ex], 109, 2, false⟩)
    (hq : H.look b = some ⟨cells, 5, 1, false⟩) (hl : len = l.length) (h0 : l ≠ []) (hc : ∀ (j : Nat) (z : UInt8), l[j]? = some z → cells[j]? = some (AV.i .u8 z.toNat)) (hmax : l.length ≤ 9223372036854775807) :
    FnS Go.Proofs.Tryz.prog 55 [.p (some (a, 0))] H ⟨.s l, [(b, some ⟨cells, 5, 1, true⟩)], []⟩ := by
  intro ι w cargs hH hargs hbd
  obtain ⟨a1, l1, e1, v1, hv⟩ := hargs.inv
  have e4 := hv.inv0
  subst e4
  have := arr_of e1
  subst this
  subst hl
  obtain ⟨_, _, _, c, el, fr, h1, h2, h3, h4⟩ := hH.blk a _ hk
  obtain ⟨rfl, h2b, h2c, h2d⟩ := h2 rfl
  obtain ⟨hbok, hbes, _, g, gel, gfr, g1, g2, g3, g4⟩ := hH.blk b _ hq
  obtain ⟨rfl, g2b, g2c, g2d⟩ := g2 rfl
  simp only at g2b
  subst g2b
  cases v1
  rw [h2c] at h4 ⊢
  simp only [Nat.zero_add] at h4 ⊢
  obtain ⟨y1, c1, v1⟩ := h4 1 _ rfl
  have hl0 : l.length ≠ 0 := by simpa using h0
  obtain ⟨cap', hcap, rfl⟩ : ∃ cap', cap' ≠ 0 ∧ y1 = .slice (some ⟨(ι b).b, 0, none⟩) l.length cap' := by
    generalize hn : l.length = n at v1 hl0
    cases v1 with
    | sl a o len cap exact cap' k0 k1 k2 k3 k4 =>
      rw [g2c]
      exact ⟨cap', by omega, rfl⟩
    | se => exact absurd rfl hl0
  have hcell : ∀ j z, l[j]? = some z → w.drew.cell? ((⟨(ι b).b, 0, none⟩ : Addr).add j) = some (.int .u8 z.toNat) := fun j z hz => by
    obtain ⟨cv, k1, k2⟩ := g4 j _ (hc j z hz)
    cases k2
    rw [g2c] at k1
    rw [add_addr]
    exact cell_of (w := w.drew) g1 k1
  have hlen : l.length ≤ g.size := by
    have hlast := hc (l.length - 1) _ (List.getElem?_eq_getElem (by omega))
    have := (List.getElem?_eq_some_iff.1 hlast).1
    simp only at g3
    omega
  have hSD := Lib.run_unsafeSliceData_row (P := Go.Proofs.Tryz.prog) w.drew #[93] 160 ⟨(ι b).b, 0, none⟩ l.length cap' hcap
  have hUS := Lib.run_unsafeString_row (P := Go.Proofs.Tryz.prog) w.drew 160 3 9 5 Go.Proofs.Tryz.underlying160 tu_cells (ι b).b g.size (by
    have h : w.drew.heap[(ι b).b]? = some (.cells g 5 (0, 0)) := g1
    simp [World.shape?, h]) l h0 hlen hmax hcell
  refine lands_enter Go.Proofs.Tryz.func55 (by kernel_rfl) (by kernel_rfl) ?_
  refine (string_row (ι a).b (ι b).b l.length cap' l w (cell_of (w := w.drew) h1 c1) hSD hUS).mono fun e w' ⟨he, hw⟩ => ⟨_, he, ?_⟩
  subst hw
  have hd : w.drew.heap = w.heap := rfl
  refine callPost_ro (q := ⟨cells, 5, 1, false⟩) hH hq rfl ?_ ?_ ?_ ?_ (fun i hi => ?_) (fun c2 el2 fr2 hh => ?_) (.s l) (fun r hr => by cases hr)
  · simp [World.freeze, hl0, hd]
  · simp only [World.freeze, if_neg hl0]; rfl
  · simp only [World.freeze, if_neg hl0]; rfl
  · simp only [World.freeze, if_neg hl0]; rfl
  · simp only [World.freeze, if_neg hl0, Array.getElem?_modify]
    rw [if_neg (fun e => hi e.symm), hd]
  · rw [g1] at hh
    cases hh
    simp only [World.freeze, if_neg hl0, Array.getElem?_modify, if_pos, hd, g1, Option.map_some]
    exact ⟨_, rfl⟩
end Go.Em
