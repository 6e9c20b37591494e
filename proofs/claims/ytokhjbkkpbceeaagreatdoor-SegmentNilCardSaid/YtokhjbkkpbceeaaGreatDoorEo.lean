/- The abstract machine: a region whose order is open. What an instruction hangs on; new places; the computation. -/
import Derived.Test.YtokhjbkkpbceeaaGreatDoorEn
namespace Go.Em
open Go
set_option linter.unusedSimpArgs false
set_option linter.unusedVariables false

def IK.opds : IK → List Opd
  | .mv x | .box _ _ x | .ld _ _ x | .nilChk x | .un _ x | .conv _ x | .bts x | .sts x | .mkI _ x | .fad _ x | .fld _ _ _ x | .ext _ x | .lenT x | .lenS x | .capS x => [x]
  | .pick c a b => [c, a, b]
  | .new .. | .lenK _ | .bad => []
  | .build _ ps | .buildS _ _ _ _ ps => ps.map (·.2.2)
  | .st _ a x | .bin _ a x | .eqB _ a x | .eqP _ a x | .eqS _ a x | .eqC _ _ a x | .mkS _ _ _ _ a x | .iadS _ a x | .iadA _ _ a x | .idxT a x | .idxA _ _ _ a x | .mnmx _ a x | .app _ _ _ a x | .copy _ a x => [a, x]
  | .mkF _ xs ys => xs ++ ys
  | .slcS _ x lo hi mx => x :: (lo.toList ++ (hi.toList ++ mx.toList))
  | .slcT x lo hi => x :: (lo.toList ++ hi.toList)
  | .slcA _ _ x lo hi => x :: (lo.toList ++ hi.toList)
  | .call _ xs => xs
  | .callV f xs => f :: xs
  | .callI r _ xs => r :: xs

theorem fillP_congr {T T' : List AV} : ∀ (ps : List (Nat × Nat × Opd)) (cs : List AV), (∀ x ∈ ps.map (·.2.2), x.ev T = x.ev T') → fillP T cs ps = fillP T' cs ps
  | [], cs, _ => rfl
  | (o, n, x) :: r, cs, h => by
    have hx := h x (by simp)
    have ih := fun cs => fillP_congr r cs fun y hy => h y (by simp only [List.map_cons, List.mem_cons]; exact .inr hy)
    simp only [fillP, hx, ih]
theorem map_congr {T T' : List AV} {xs : List Opd} (h : ∀ x ∈ xs, x.ev T = x.ev T') : xs.map (·.ev T) = xs.map (·.ev T') := List.map_congr_left h
theorem optN_congr {T T' : List AV} {d : Nat} {x : Option Opd} (h : ∀ y ∈ x.toList, y.ev T = y.ev T') : optN d T x = optN d T' x := by
  cases x with
  | none => rfl
  | some x => simp only [optN, h x (by simp)]

theorem evK_congr {orc : Orc} {mt : Meth} {T T' : List AV} {m : Mem} {k : IK} (h : ∀ x ∈ k.opds, x.ev T = x.ev T') : evK orc mt T m k = evK orc mt T' m k := by
  cases k <;> simp only [IK.opds, List.mem_cons, List.not_mem_nil, or_false, forall_eq_or_imp, forall_eq, List.mem_append, List.forall_mem_append] at h <;> simp only [evK, IK.ev, h]
  case build => rw [fillP_congr _ _ h]
  case buildS => rw [fillP_congr _ _ h]
  case mkF => rw [map_congr (fun x hx => h x (.inl hx)), map_congr (fun x hx => h x (.inr hx))]
  case call => rw [map_congr h]
  case callV => rw [map_congr h.2]
  case callI => rw [map_congr h.2]
  case slcT x lo hi =>
    rw [optN_congr (x := lo) (fun y hy => h.2 y (.inl hy))]
    split <;> first | rfl | (rw [optN_congr (x := hi) (fun y hy => h.2 y (.inr hy))])
  case slcA n es x lo hi =>
    split <;> first | rfl | skip
    split <;> first | rfl | skip
    rw [optN_congr (x := lo) (fun y hy => h.2 y (.inl hy)), optN_congr (x := hi) (fun y hy => h.2 y (.inr hy))]
  case slcS es x lo hi mx =>
    have h1 := fun d => optN_congr (d := d) (x := lo) (fun y hy => h.2 y (.inl hy))
    have h2 := fun d => optN_congr (d := d) (x := hi) (fun y hy => h.2 y (.inr (.inl hy)))
    have h3 := fun d => optN_congr (d := d) (x := mx) (fun y hy => h.2 y (.inr (.inr hy)))
    cases mx with
    | none => simp only [h1, h2, h3]
    | some y =>
      have h4 := h.2 y (.inr (.inr (by simp)))
      simp only [h1, h2, h3, h4]

/-- A new place with a name that is given. -/
def evA (T : List AV) (slot : Nat) : IK → Option (AV × Blk)
  | .new el es zero => some (.p (some (slot, 0)), { cells := zero, el := el, es := es, ro := false })
  | .box el es x => bif isU (x.ev T) then none else some (.p (some (slot, 0)), { cells := (x.ev T).cells, el := el, es := es, ro := false })
  | .buildS el es len zero parts => (fillP T (repl zero len) parts).map fun cs => (.sl (some (slot, 0)) len len true, { cells := cs, el := el, es := es, ro := false })
  | _ => none
theorem evA_congr {T T' : List AV} {slot : Nat} {k : IK} (h : ∀ x ∈ k.opds, x.ev T = x.ev T') : evA T slot k = evA T' slot k := by
  cases k <;> simp only [IK.opds, List.mem_cons, List.not_mem_nil, or_false, forall_eq] at h <;> simp only [evA, h]
  case buildS => rw [fillP_congr _ _ h]

/-- What the model does at a new place. -/
def NewPost (P : Program) (ι : Emb) (n : Nat) (w : World) (res : Sem Next) (slot : Nat) (v : AV) (k : Blk) : Prop :=
  k.ro = false ∧ (∀ x ∈ k.cells, Bd n x) ∧ (∀ r, Rf r v → r = slot) ∧
  ∃ (cv : Value) (c : Array Value), res.run P w = .ok (.value cv) (w.alloc (.cells c k.el)) ∧ k.cells.length ≤ c.size ∧ (∀ (j : Nat) (x : AV), k.cells[j]? = some x → ∃ y : Value, c[j]? = some y ∧ VR ι x y) ∧
    ∀ κ : Emb, κ slot = ⟨w.heap.size, 0, c.size, k.es, true⟩ → VR κ v cv

section
variable {P : Program} {ι : Emb} {w : World} {T : List AV} {a : Act} {v : AV} {o : Oper}

theorem evA_sound {n slot : Nat} {k : IK} {b : Blk} (ht : TR ι n T a.tmps) (hk : chkK P o.op k = true) (h : evA T slot k = some (v, b)) : NewPost P ι n w (execOp a.eval o) slot v b := by
  have ptr : ∀ {cs : List AV} {c : Array Value} {el es : Nat}, VRs ι cs c.toList → (∀ x ∈ cs, Bd n x) → (execOp a.eval o).run P w = .ok (.value (.pointer (some ⟨w.heap.size, 0, none⟩))) (w.alloc (.cells c el)) →
      NewPost P ι n w (execOp a.eval o) slot (.p (some (slot, 0))) { cells := cs, el := el, es := es, ro := false } := fun hv hb hr =>
    ⟨rfl, hb, fun r hr => by cases hr; rfl, _, _, hr, by have := hv.1; simp at this; exact Nat.le_of_eq this, hv.exists, fun κ hκ => by
      have e := VR.p (ι := κ) slot 0 (by rw [hκ])
      rw [hκ] at e
      simpa using e⟩
  cases k <;> simp only [evA] at h <;> (try (cases h; done)) <;> simp only [chkK] at hk
  case new el es z =>
    split at hk <;> (try (cases hk; done))
    rename_i el' ho
    simp only [Bool.and_eq_true, Nat.beq_eq] at hk
    obtain ⟨rfl, hz⟩ := hk
    simp only [Option.some.injEq, Prod.mk.injEq] at h
    obtain ⟨rfl, rfl⟩ := h
    obtain ⟨i, zv, hi, hzv, hvr, hbd⟩ := zeroIs_spec hz
    refine ptr (c := zv.cells) (hvr ι) (hbd _) ?_
    simp only [execOp, ho]
    refine run_v ?_
    simp [Instr.alloc, run_zeroValue' hi hzv, newVar, newRow]
  case box el es y =>
    split at hk <;> (try (cases hk; done))
    rename_i el' x ho
    simp only [Bool.and_eq_true, Nat.beq_eq] at hk
    obtain ⟨rfl, hx⟩ := hk
    cases hu : isU (y.ev T) with
    | true => simp [hu] at h
    | false =>
      simp only [hu, cond_false, Option.some.injEq, Prod.mk.injEq] at h
      obtain ⟨rfl, rfl⟩ := h
      have sx := opd_sound ht hx
      refine ptr (c := (a.eval x).cells) (sx.1.cells (isU_ne hu)) (cells_bd sx.2) ?_
      simp only [execOp, ho]
      refine run_v ?_
      simp [Instr.box, newVar, newRow]
  case buildS el es len z qs =>
    split at hk <;> (try (cases hk; done))
    rename_i t len' ps ho
    simp only [Bool.and_eq_true, Nat.beq_eq] at hk
    obtain ⟨⟨⟨⟨⟨⟨rfl, h1⟩, h2⟩, h3⟩, h4⟩, h5⟩, h6⟩ := hk
    -- the same as at a place of the machine's own
    obtain ⟨d, hd, hbb⟩ := und_spec h1
    cases d <;> simp only at hbb <;> (try (cases hbb; done))
    obtain rfl := Nat.eq_of_beq_eq_true hbb
    obtain ⟨i, hi, rfl⟩ := szIs_spec h2
    obtain ⟨i', zv, hi', hzv, hvr, hbd⟩ := zeroIs_spec h4
    rw [hi] at hi'; cases hi'
    have hzs : zv.cells.size = i.size := by have := (hvr ι).1; simp at this; omega
    simp only [Option.map_eq_some_iff, Prod.mk.injEq] at h
    obtain ⟨rs, hf, rfl, rfl⟩ := h
    have hrep := repl_spec (ι := ι) (hvr ι) len'
    obtain ⟨cs, he, hve, hbe⟩ := fill_sound ht _ ps.toList qs (repl z len') _ rs h6 hrep (fun x hx => hbd _ x (repl_mem hx)) hf
    have hle := Nat.le_of_ble_eq_true h5
    have hcl : rs.length = cs.size := by have := hve.1; simpa using this
    have hrl : cs.size = len' * i.size := by
      have key : ∀ (qs : List (Nat × Nat × Opd)) (cs rs : List AV), fillP T cs qs = some rs → rs.length = cs.length := by
        intro qs
        induction qs with
        | nil => intro cs rs h; simp [fillP] at h; rw [h]
        | cons q qs ih =>
          intro cs rs h
          obtain ⟨o1, n1, x1⟩ := q
          simp only [fillP] at h
          cases c0 : isU (x1.ev T) with
          | true => simp [c0] at h
          | false =>
            cases c1 : Nat.beq (x1.ev T).cells.length n1 with
            | false => simp [c0, c1] at h
            | true =>
              cases c2 : Nat.ble (o1 + n1) cs.length with
              | false => simp [c0, c1, c2] at h
              | true =>
                simp only [c0, c1, c2, cond_true, cond_false] at h
                rw [ih _ _ h]
                have c1' := Nat.eq_of_beq_eq_true c1
                have c2' := Nat.le_of_ble_eq_true c2
                simp; omega
      rw [← hcl, key _ _ _ hf, repl_length, h3]
    refine ⟨rfl, hbe, fun r hr => by cases hr; rfl, .slice (some ⟨w.heap.size, 0, none⟩) len' len', cs, ?_, by simp; omega, hve.exists, fun κ hκ => ?_⟩
    · simp only [execOp, ho]
      refine run_v ?_
      have hgt : ¬ (len' * i.size > 2 ^ 24) := by omega
      by_cases h0 : len' * i.size = 0
      · have hfill : Instr.fill (fun k => some (k * i.size, i.size)) ((Array.range (len' * i.size)).map ((#[] : Array Value)[· % (#[] : Array Value).size]!)) (ps.toList.map fun (i, x) => (i, a.eval x)) = some cs := by
          rw [← he, hzs, h0, map_range_zero, map_range_zero]
        simp only [Instr.buildSlice, Sem.run_bind, run_underlying hd, Result.andThen_ok, run_sizeOf' hi, if_neg hgt, Sem.run_pure, if_pos h0, Array.toList_map, hfill, newRow, run_newObj]
        rfl
      · have hfill : Instr.fill (fun k => some (k * i.size, i.size)) ((Array.range (len' * i.size)).map (zv.cells[· % zv.cells.size]!)) (ps.toList.map fun (i, x) => (i, a.eval x)) = some cs := by
          rw [← he, hzs]
        simp only [Instr.buildSlice, Sem.run_bind, run_underlying hd, Result.andThen_ok, run_sizeOf' hi, if_neg hgt, Sem.run_pure, if_neg h0, run_zeroValue' hi hzv, Array.toList_map, hfill, newRow, run_newObj]
        rfl
    · have e := VR.sl (ι := κ) slot 0 len' len' true len' (by rw [hκ]) (Nat.le_refl _) (Nat.le_refl _) (fun _ => rfl) (by rw [hκ]; simp; omega)
      rw [hκ] at e
      simpa using e

end

/-! ### The computation -/

structure DOp where
  io : IOp
  kd : Nat
  anc : List Nat
  msk : List Nat
  rk : Nat

structure Rec where
  v : AV
  ran : Bool
  T : List AV
  pre : Mem
  post : Mem

def memb (x : Nat) : List Nat → Bool
  | [] => false
  | y :: r => bif Nat.beq x y then true else memb x r
theorem memb_spec {x : Nat} {l : List Nat} : memb x l = true ↔ x ∈ l := by
  induction l with
  | nil => simp [memb]
  | cons y r ih =>
    by_cases h : x = y
    · subst h; simp [memb]
    · simp [memb, beqF h, ih, h]

def evL (orc : Orc) (mt : Meth) (T : List AV) (m : Mem) (k : IK) : Option AV := match evK orc mt T m k with | some (v, _) => some v | none => none
def sameV (x : Option AV) (v : AV) : Bool := match x with | some y => AV.beq y v | none => false

abbrev Done := List (Nat × DOp × Rec)

/-- The reading operations that may come later still read what they read. -/
def readsOk (orc : Orc) (mt : Meth) (base : Nat) (anc : List Nat) (post : Mem) : Done → Bool
  | [] => true
  | (j, d, r) :: q => (bif Nat.beq d.kd 1 && r.ran && !memb j anc then sameV (evL orc mt r.T (post.mask base d.msk) d.io.k) r.v else true) && readsOk orc mt base anc post q
/-- A reading operation that may come earlier reads the same. -/
def wroteOk (orc : Orc) (mt : Meth) (base : Nat) (d : DOp) (T : List AV) (v : AV) : Done → Bool
  | [] => true
  | (j, e, r) :: q => (bif Nat.beq e.kd 2 && r.ran && !memb j d.anc then sameV (evL orc mt T (r.pre.mask base d.msk) d.io.k) v else true) && wroteOk orc mt base d T v q

def evD1 (orc : Orc) (mt : Meth) (base : Nat) (done : Done) (d : DOp) (T : List AV) (M : Mem) : Option Rec :=
  match gd T d.io.g with
  | none => none
  | some false => bif Nat.beq d.kd 3 then none else some ⟨.u, false, T, M, M⟩
  | some true =>
    match d.kd with
    | 0 => match evK orc mt T M d.io.k with
      | some (v, _) => some ⟨v, true, T, M, M⟩
      | none => none
    | 1 => match evL orc mt T (M.mask base d.msk) d.io.k with
      | some v => bif wroteOk orc mt base d T v done then some ⟨v, true, T, M, M⟩ else none
      | none => none
    | 2 => match evK orc mt T (M.mask base d.msk) d.io.k with
      | some (v, m') =>
        let post := m'.rest M base d.msk
        bif readsOk orc mt base d.anc post done then some ⟨v, true, T, M, post⟩ else none
      | none => none
    | 3 => match evA T (base + d.rk) d.io.k with
      | some (v, b) => some ⟨v, true, T, M, M.put (base + d.rk) (some b)⟩
      | none => none
    | _ => none

def evD (orc : Orc) (mt : Meth) (base : Nat) : List DOp → Nat → Done → List AV → Mem → Option (List AV × Mem)
  | [], _, _, T, M => some (T, M)
  | d :: r, i, done, T, M => match evD1 orc mt base done d T M with
    | some c => evD orc mt base r (i + 1) ((i, d, c) :: done) (putT T d.io.dst c.v) c.post
    | none => none

def evReg (orc : Orc) (mt : Meth) (nA : Nat) (ds : List DOp) (s : St) : Option St :=
  match evD orc mt s.m.top ds 0 [] s.T (s.m.pushN nA) with
  | some (T, M) => some ⟨T, M⟩
  | none => none

end Go.Em
