/- Methods of types without a path; what is known of the library, as one oracle. -/
import Derived.Test.YtokhjbkkpbceeaaGreatDoorSc
namespace Go.Em
open Go
set_option linter.unusedSimpArgs false
set_option linter.unusedVariables false

def notPtr (P : Program) (t : TypeId) : Bool := und P t fun d => match d with | .pointer _ => false | _ => true
def methIs (P : Program) (t : TypeId) (s : String) (f : FuncId) : Bool :=
  (match P.info? t with
    | some i => (match i.methods.find? (·.name == s) with
      | some m => m.path.toList.isEmpty && (match m.func with | some (g, false) => Nat.beq g f | _ => false)
      | none => false)
    | none => false) && notPtr P t

theorem methIs_run {P : Program} {t : TypeId} {s : String} {f : FuncId} (h : methIs P t s f = true) (n : Nat) (v : Value) (w : World) :
    (method (n + 1) t v s).run P w = .ok (f, v) w ∧ (nilAhead (n + 1) t v s).run P w = .ok (some false) w := by
  unfold methIs at h
  simp only [Bool.and_eq_true] at h
  obtain ⟨h, hp⟩ := h
  obtain ⟨d, hd, hp⟩ := und_spec hp
  cases hi : P.info? t with
  | none => simp [hi] at h
  | some i =>
    simp only [hi] at h
    cases hm : i.methods.find? (·.name == s) with
    | none => simp [hm] at h
    | some m =>
      simp only [hm, Bool.and_eq_true] at h
      obtain ⟨h1, h2⟩ := h
      have h1 : m.path.toList = [] := by simpa using h1
      cases hf : m.func with
      | none => simp [hf] at h2
      | some q =>
        obtain ⟨g, b⟩ := q
        cases b with
        | true => simp [hf] at h2
        | false =>
          simp only [hf, Nat.beq_eq] at h2
          subst h2
          constructor
          · simp only [method, Sem.run_bind, run_typeInfo' hi, Result.andThen_ok, hm, h1, follow, Sem.run_pure, hf, receiverAt, run_underlying hd]
            cases d <;> simp at hp <;> simp [Place.get]
          · simp only [nilAhead, Sem.run_bind, run_typeInfo' hi, Result.andThen_ok, hm, h1, followBlind, Sem.run_pure, hf, run_underlying hd]
            cases d <;> simp at hp <;> rfl

/-- A table of methods. -/
def methL : List (TypeId × String × FuncId) → Meth
  | [], _, _ => none
  | (t, s, f) :: r, t', s' => bif Nat.beq t t' && (s == s') then some f else methL r t' s'
def chkMeth (P : Program) : List (TypeId × String × FuncId) → Bool
  | [] => true
  | (t, s, f) :: r => methIs P t s f && chkMeth P r
theorem methL_spec {P : Program} : ∀ {l : List (TypeId × String × FuncId)}, chkMeth P l = true → ∀ t s f, methL l t s = some f → methIs P t s f = true
  | [], _, t, s, f, h => by simp [methL] at h
  | (t0, s0, f0) :: r, hc, t, s, f, h => by
    simp only [chkMeth, Bool.and_eq_true] at hc
    simp only [methL] at h
    cases hb : (Nat.beq t0 t && (s0 == s)) with
    | true =>
      simp only [hb, cond_true, Option.some.injEq] at h
      simp only [Bool.and_eq_true, Nat.beq_eq, beq_iff_eq] at hb
      obtain ⟨rfl, rfl⟩ := hb
      rw [← h]; exact hc.1
    | false =>
      simp only [hb, cond_false] at h
      exact methL_spec hc.2 t s f h
theorem methL_ok {P : Program} {l : List (TypeId × String × FuncId)} (h : chkMeth P l = true) : MethOK P (methL l) := by
  obtain ⟨n, hn⟩ : ∃ n, P.types.size + Made.depth = n + 1 := ⟨P.types.size + Made.depth - 1, by unfold Made.depth; omega⟩
  constructor
  · intro t s f hm v w
    rw [hn]
    exact (methIs_run (methL_spec h t s f hm) n v w).1
  · intro t s f hm v w
    rw [hn]
    exact (methIs_run (methL_spec h t s f hm) n v w).2

def mt : Meth := methL [(163, "Check", 264), (163, "Equal", 265), (163, "Reduce", 266), (163, "Same", 267)]
theorem mt_ok : MethOK Go.Proofs.Tryz.prog mt := methL_ok (by kernel_rfl)

/-! What is known of the library's own functions. -/
def spAdd : List AV → Option CR
  | [.i .u64 x, .i .u64 y, .i .u64 c] => bif decide (0 ≤ x) && decide (0 ≤ y) && decide (0 ≤ c) && decide (c ≤ 1) then some ⟨.tp [.i .u64 ((x + y + c) % 18446744073709551616), .i .u64 ((x + y + c) / 18446744073709551616)], [], []⟩ else none
  | _ => none
set_option maxRecDepth 100000 in
theorem spAdd_ok {args : List AV} {H : Hv} {c : CR} (h : spAdd args = some c) : FnS Go.Proofs.Tryz.prog 156 args H c := by
  unfold spAdd at h
  split at h
  · rename_i x y c'
    generalize hb : (decide (0 ≤ x) && decide (0 ≤ y) && decide (0 ≤ c') && decide (c' ≤ 1)) = b at h
    cases b with
    | false => cases h
    | true =>
      simp only [cond_true, Option.some.injEq] at h
      simp only [Bool.and_eq_true, decide_eq_true_eq] at hb
      rw [← h]
      exact add64_fns hb.1.1.1 hb.1.1.2 hb.1.2 hb.2 H
  · cases h
def spCmp : List AV → Option CR
  | [.s x, .s y] => some ⟨.i .i64 (Lib.compareBytes x y), [], []⟩
  | _ => none
set_option maxRecDepth 100000 in
theorem spCmp_ok {args : List AV} {H : Hv} {c : CR} (h : spCmp args = some c) : FnS Go.Proofs.Tryz.prog 221 args H c := by
  unfold spCmp at h
  split at h
  · simp only [Option.some.injEq] at h
    rw [← h]
    exact cmp_fns H
  · cases h
/-- The one pointer that is the argument, at a block's head. -/
def headP : List AV → Option Nat
  | [.p (some (a, 0))] => some a
  | _ => none
theorem headP_spec {args : List AV} {a : Nat} (h : headP args = some a) : args = [.p (some (a, 0))] := by
  unfold headP at h
  split at h
  · cases h; rfl
  · cases h
/-- A builder that is written: its two cells. -/
def bldAt (H : Hv) (a : Nat) : Option (AV × AV) := match H.look a with
  | some k => (match k.cells with
    | [x, y] => bif Nat.beq k.el 109 && Nat.beq k.es 2 && !k.ro then some (x, y) else none
    | _ => none)
  | none => none
set_option maxRecDepth 100000 in
theorem bldAt_spec {H : Hv} {a : Nat} {x y : AV} (h : bldAt H a = some (x, y)) : H.look a = some ⟨[x, y], 109, 2, false⟩ := by
  unfold bldAt at h
  split at h
  · rename_i k hk
    split at h
    · rename_i x' y' hc
      generalize hb : (Nat.beq k.el 109 && Nat.beq k.es 2 && !k.ro) = b at h
      cases b with
      | false => cases h
      | true =>
        simp only [cond_true, Option.some.injEq, Prod.mk.injEq] at h
        simp only [Bool.and_eq_true, Nat.beq_eq, Bool.not_eq_true'] at hb
        obtain ⟨rfl, rfl⟩ := h
        obtain ⟨⟨h1, h2⟩, h3⟩ := hb
        rw [hk]
        cases k
        simp only at hc h1 h2 h3
        rw [hc, h1, h2, h3]
    · cases h
  · cases h
def spCC (args : List AV) (H : Hv) : Option CR := match headP args with
  | some a => (match bldAt H a with
    | some (.p none, x) => some ⟨.tp [], [(a, some ⟨[.p (some (a, 0)), x], 109, 2, false⟩)], []⟩
    | some (.p (some (a', 0)), x) => bif Nat.beq a a' then some ⟨.tp [], [], []⟩ else none
    | _ => none)
  | none => none
set_option maxRecDepth 100000 in
theorem spCC_ok {args : List AV} {H : Hv} {c : CR} (h : spCC args H = some c) : FnS Go.Proofs.Tryz.prog 89 args H c := by
  unfold spCC at h
  split at h
  · rename_i a ha
    rw [headP_spec ha]
    split at h
    · rename_i x hk
      simp only [Option.some.injEq] at h
      rw [← h]
      exact copyCheck1_fns (bldAt_spec hk)
    · rename_i a' x hk
      by_cases hb : a = a'
      · subst hb
        simp only [Nat.beq_refl, cond_true, Option.some.injEq] at h
        rw [← h]
        exact copyCheck2_fns (bldAt_spec hk)
      · rw [beqF hb] at h; cases h
    · cases h
  · cases h
/-- The bytes that a builder holds. -/
def bufAt (H : Hv) (b len : Nat) : Option (List AV × List UInt8) := match H.look b with
  | some q => (match bytesOf (q.cells.take len) with
    | some l => bif Nat.beq q.el 5 && Nat.beq q.es 1 && !q.ro && (Nat.beq l.length len && Nat.blt 0 len && Nat.ble len 9223372036854775807 && AV.beqL (q.cells.take len) (l.map fun c => .i .u8 c.toNat)) then some (q.cells, l) else none
    | none => none)
  | none => none
set_option maxRecDepth 100000 in
theorem bufAt_spec {H : Hv} {b len : Nat} {cells : List AV} {l : List UInt8} (h : bufAt H b len = some (cells, l)) : H.look b = some ⟨cells, 5, 1, false⟩ ∧ l.length = len ∧ 0 < len ∧ len ≤ 9223372036854775807 ∧ cells.take len = l.map fun c => AV.i .u8 c.toNat := by
  unfold bufAt at h
  split at h
  · rename_i q hq
    split at h
    · rename_i l' hl
      generalize hb : (Nat.beq q.el 5 && Nat.beq q.es 1 && !q.ro && (Nat.beq l'.length len && Nat.blt 0 len && Nat.ble len 9223372036854775807 && AV.beqL (q.cells.take len) (l'.map fun c => AV.i .u8 c.toNat))) = b at h
      cases b with
      | false => cases h
      | true =>
        simp only [cond_true, Option.some.injEq, Prod.mk.injEq] at h
        obtain ⟨rfl, rfl⟩ := h
        simp only [Bool.and_eq_true, Nat.beq_eq, Bool.not_eq_true', Nat.blt_eq, Nat.ble_eq] at hb
        obtain ⟨⟨⟨h1, h2⟩, h3⟩, ⟨⟨h4, h5⟩, h6⟩, h7⟩ := hb
        refine ⟨?_, h4, h5, h6, AV.beqL_spec _ _ h7⟩
        rw [hq]
        cases q
        simp only at h1 h2 h3
        rw [h1, h2, h3]
    · cases h
  · cases h
def spStr (args : List AV) (H : Hv) : Option CR := match headP args with
  | some a => (match bldAt H a with
    | some (x, .sl none 0 0 true) => some ⟨.s [], [], []⟩
    | some (x, .sl (some (b, 0)) len cap ex) => (match bufAt H b len with
      | some (cells, l) => some ⟨.s l, [(b, some ⟨cells, 5, 1, true⟩)], []⟩
      | none => none)
    | _ => none)
  | none => none
set_option maxRecDepth 100000 in
theorem spStr_ok {args : List AV} {H : Hv} {c : CR} (h : spStr args H = some c) : FnS Go.Proofs.Tryz.prog 55 args H c := by
  unfold spStr at h
  split at h
  · rename_i a ha
    rw [headP_spec ha]
    split at h
    · rename_i x hk
      simp only [Option.some.injEq] at h
      rw [← h]
      exact stringNil_fns (bldAt_spec hk)
    · rename_i x b len cap ex hk
      split at h
      · rename_i cells l hq
        simp only [Option.some.injEq] at h
        rw [← h]
        obtain ⟨h1, h2, h3, h4, h5⟩ := bufAt_spec hq
        refine string_fns (bldAt_spec hk) h1 h2.symm (fun e => by subst e; simp at h2; omega) (fun j z hz => ?_) (by omega)
        have hj : j < len := by rw [← h2]; exact (List.getElem?_eq_some_iff.1 hz).1
        have := congrArg (·[j]?) h5
        simp only [List.getElem?_take, if_pos hj, List.getElem?_map, hz, Option.map_some] at this
        exact this
      · cases h
    · cases h
  · cases h
def spec0 : Orc := fun f args H => bif Nat.beq f 156 then spAdd args else bif Nat.beq f 221 then spCmp args
  else bif Nat.beq f 89 then spCC args H else bif Nat.beq f 55 then spStr args H else none
set_option maxRecDepth 100000 in
set_option maxRecDepth 100000 in
theorem spec0_ok : SpecOK Go.Proofs.Tryz.prog spec0 := by
  intro f args H c h
  unfold spec0 at h
  by_cases h1 : f = 156
  · subst h1
    simp only [Nat.beq_refl, cond_true] at h
    exact spAdd_ok h
  rw [beqF h1] at h
  simp only [cond_false] at h
  by_cases h1 : f = 221
  · subst h1
    simp only [Nat.beq_refl, cond_true] at h
    exact spCmp_ok h
  rw [beqF h1] at h
  simp only [cond_false] at h
  by_cases h1 : f = 89
  · subst h1
    simp only [Nat.beq_refl, cond_true] at h
    exact spCC_ok h
  rw [beqF h1] at h
  simp only [cond_false] at h
  by_cases h1 : f = 55
  · subst h1
    simp only [Nat.beq_refl, cond_true] at h
    exact spStr_ok h
  rw [beqF h1] at h
  cases h
end Go.Em
