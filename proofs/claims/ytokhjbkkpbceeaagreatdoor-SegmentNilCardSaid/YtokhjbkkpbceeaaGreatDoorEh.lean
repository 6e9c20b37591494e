/- Each instruction of the abstract machine against its operation of the model: structs, make, append, copy. -/
import Derived.Test.YtokhjbkkpbceeaaGreatDoorEg
namespace Go.Em
open Go
set_option linter.unusedSimpArgs false
set_option linter.unusedVariables false

section
variable {P : Program} {ι : Emb} {m m' : Mem} {w : World} {T : List AV} {a : Act} {v : AV} {o : Oper}

/-! ### Structs, arrays and slices that are written out -/

def structPlaces (P : Program) (fs : List Field) : Option (List (Nat × Nat)) := fs.mapM fun f => (P.info? f.type).map fun i => (f.offset, i.size)
def buildOk (P : Program) (t : TypeId) (ps : List (Nat × Operand)) (qs : List (Nat × Nat × Opd)) : Bool :=
  und P t fun d => match d with
    | .struct fs => (match structPlaces P fs.toList with | some places => partsOk (places.toArray[·]?) ps qs | none => false)
    | .array _ e => (match P.info? e with | some i => partsOk (fun k => some (k * i.size, i.size)) ps qs | none => false)
    | _ => false

theorem snd_build (hm : HR ι m.hv w) (ht : TR ι m.top T a.tmps) (t : TypeId) (ps : Array (Nat × Operand)) (z : List AV) (qs : List (Nat × Nat × Opd)) (ho : o.op = .build t ps) (hz : zeroIs P t z = true) (hb : buildOk P t ps.toList qs = true)
    (h : (IK.build z qs).ev T m = some (v, m')) : OpPost P ι m w (execOp a.eval o) v m' := by
  obtain ⟨i, zv, hi, hzv, hvr, hbd⟩ := zeroIs_spec hz
  obtain ⟨d, hd, hbb⟩ := und_spec hb
  simp only [IK.ev, Option.map_eq_some_iff, Prod.mk.injEq] at h
  obtain ⟨rs, hf, rfl, rfl⟩ := h
  have fin : ∀ (es : Array Value), P.built t (ps.toList.map fun (i, x) => (i, a.eval x)) = some es → VRs ι rs es.toList → (∀ x ∈ rs, Bd m.top x) → OpPost P ι m w (execOp a.eval o) (.ag rs) m := fun es he hv hbd' => by
    have hv' := hv.ag
    rw [Array.toArray_toList] at hv'
    refine .same hm (cv := .agg es) ?_ hv' (bd_ag hbd')
    simp only [execOp, ho]
    refine run_v (run_build w t _ es ?_)
    simpa using he
  cases d <;> simp only at hbb <;> (try (cases hbb; done))
  case array n e =>
    cases hie : P.info? e with
    | none => simp [hie] at hbb
    | some ie =>
      simp only [hie] at hbb
      obtain ⟨es, he, hve, hbe⟩ := fill_sound ht _ ps.toList qs z zv.cells rs hbb (hvr ι) (hbd _) hf
      exact fin es (by simp only [Program.built, hi, hd, hzv, hie, he]) hve hbe
  case struct fs =>
    cases hpl : structPlaces P fs.toList with
    | none => simp [hpl] at hbb
    | some places =>
      simp only [hpl] at hbb
      obtain ⟨es, he, hve, hbe⟩ := fill_sound ht _ ps.toList qs z zv.cells rs hbb (hvr ι) (hbd _) hf
      unfold structPlaces at hpl
      exact fin es (by simp only [Program.built, hi, hd, hzv, hpl, he]) hve hbe

theorem map_range_zero (f : Nat → Value) : (Array.range 0).map f = #[] := by apply Array.ext_getElem? ; intro i; simp

theorem repl_length (z : List AV) (n : Nat) : (repl z n).length = n * z.length := by
  induction n with
  | zero => simp [repl]
  | succ n ih => simp [repl, ih, Nat.succ_mul, Nat.add_comm]
theorem repl_get (z : List AV) : ∀ (n k : Nat), k < n * z.length → (repl z n)[k]? = z[k % z.length]?
  | 0, k, h => by simp at h
  | n + 1, k, h => by
    simp only [repl]
    by_cases hk : k < z.length
    · rw [List.getElem?_append_left hk, Nat.mod_eq_of_lt hk]
    · rw [List.getElem?_append_right (by omega), repl_get z n _ (by rw [Nat.succ_mul] at h; omega)]
      rw [Nat.mod_eq_sub_mod (Nat.le_of_not_lt hk)]
theorem repl_mem {z : List AV} {n : Nat} {x : AV} (h : x ∈ repl z n) : x ∈ z := by
  induction n with
  | zero => simp [repl] at h
  | succ n ih =>
    simp only [repl, List.mem_append] at h
    rcases h with h | h
    · exact h
    · exact ih h
theorem repl_spec {z : List AV} {zv : Array Value} (hv : VRs ι z zv.toList) (n : Nat) : VRs ι (repl z n) ((Array.range (n * zv.size)).map (zv[· % zv.size]!)).toList := by
  have hl : z.length = zv.size := by simpa using hv.1
  refine ⟨by simp [repl_length, hl], fun k x y hx hy => ?_⟩
  have hk : k < n * z.length := by have := (List.getElem?_eq_some_iff.1 hx).1; rwa [repl_length] at this
  rw [repl_get z n k hk] at hx
  have hp : 0 < zv.size := by
    rcases Nat.eq_zero_or_pos zv.size with h0 | h0
    · rw [hl, h0] at hk; simp at hk
    · exact h0
  have hmod : k % zv.size < zv.size := Nat.mod_lt _ hp
  have e : ((Array.range (n * zv.size)).map (zv[· % zv.size]!)).toList[k]? = some zv[k % zv.size] := by
    rw [Array.getElem?_toList]
    simp [← hl, hk]
    simp [hl, hmod]
  rw [e] at hy
  cases hy
  exact hv.2 (k % z.length) x _ hx (by simp [hl, hmod])

theorem snd_buildS (hm : HR ι m.hv w) (ht : TR ι m.top T a.tmps) (t el : TypeId) (es len : Nat) (ps : Array (Nat × Operand)) (z : List AV) (qs : List (Nat × Nat × Opd)) (ho : o.op = .buildSlice t len ps)
    (hel : und P t (fun d => match d with | .slice e => Nat.beq e el | _ => false) = true) (hs : szIs P el es = true) (hzl : Nat.beq z.length es = true) (hz : zeroIs P el z = true) (hsz : Nat.ble (len * es) 16777216 = true)
    (hb : partsOk (fun k => some (k * es, es)) ps.toList qs = true) (h : (IK.buildS el es len z qs).ev T m = some (v, m')) : OpPost P ι m w (execOp a.eval o) v m' := by
  obtain ⟨d, hd, hbb⟩ := und_spec hel
  cases d <;> simp only at hbb <;> (try (cases hbb; done))
  obtain rfl := Nat.eq_of_beq_eq_true hbb
  obtain ⟨i, hi, rfl⟩ := szIs_spec hs
  obtain ⟨i', zv, hi', hzv, hvr, hbd⟩ := zeroIs_spec hz
  rw [hi] at hi'; cases hi'
  have hzl' : z.length = i.size := Nat.eq_of_beq_eq_true hzl
  have hzs : zv.cells.size = i.size := by have := (hvr ι).1; simp at this; omega
  simp only [IK.ev, Option.map_eq_some_iff, Prod.mk.injEq] at h
  obtain ⟨rs, hf, rfl, rfl⟩ := h
  have hrep := repl_spec (ι := ι) (hvr ι) len
  obtain ⟨cs, he, hve, hbe⟩ := fill_sound ht _ ps.toList qs (repl z len) _ rs hb hrep (fun x hx => hbd _ x (repl_mem hx)) hf
  have hle := Nat.le_of_ble_eq_true hsz
  have hcl : rs.length = cs.size := by have := hve.1; simpa using this
  have hrl : cs.size = len * i.size := by
    have : ∀ (T : List AV) (qs : List (Nat × Nat × Opd)) (cs rs : List AV), fillP T cs qs = some rs → rs.length = cs.length := by
      intro T qs
      induction qs with
      | nil => intro cs rs h; simp [fillP] at h; rw [h]
      | cons q qs ih =>
        intro cs rs h
        obtain ⟨o1, n1, x1⟩ := q
        simp only [fillP] at h
        cases c0 : isU (x1.ev T) with
        | true => simp [c0] at h
        | false =>
          cases c1 : Nat.beq (x1.ev T).cells.length n1 with
          | false => simp [c0, c1] at h
          | true =>
            cases c2 : Nat.ble (o1 + n1) cs.length with
            | false => simp [c0, c1, c2] at h
            | true =>
              simp only [c0, c1, c2, cond_true, cond_false] at h
              rw [ih _ _ h]
              have c1' := Nat.eq_of_beq_eq_true c1
              have c2' := Nat.le_of_ble_eq_true c2
              simp; omega
    rw [← hcl, this _ _ _ _ hf, repl_length, hzl']
  refine news_post hm (c := cs) (cap' := len) hve.exists (by omega) hbe (Nat.le_refl _) (Nat.le_refl _) (fun _ => rfl) (by omega) ?_
  simp only [execOp, ho]
  refine run_v ?_
  have hgt : ¬ (len * i.size > 2 ^ 24) := by omega
  have hfill : Instr.fill (fun k => some (k * i.size, i.size)) ((Array.range (len * i.size)).map ((if len * i.size = 0 then #[] else zv.cells)[· % (if len * i.size = 0 then #[] else zv.cells).size]!)) (ps.toList.map fun (i, x) => (i, a.eval x)) = some cs := by
    by_cases h0 : len * i.size = 0
    · rw [← he, hzs, h0, map_range_zero, map_range_zero]
    · rw [if_neg h0, ← he, hzs]
  by_cases h0 : len * i.size = 0
  · rw [if_pos h0] at hfill
    simp only [Instr.buildSlice, Sem.run_bind, run_underlying hd, Result.andThen_ok, run_sizeOf' hi, if_neg hgt, Sem.run_pure, if_pos h0, Array.toList_map, hfill, newRow, run_newObj]
    rfl
  · rw [if_neg h0] at hfill
    simp only [Instr.buildSlice, Sem.run_bind, run_underlying hd, Result.andThen_ok, run_sizeOf' hi, if_neg hgt, Sem.run_pure, if_neg h0, run_zeroValue' hi hzv, Array.toList_map, hfill, newRow, run_newObj]
    rfl

theorem snd_mkS (hm : HR ι m.hv w) (ht : TR ι m.top T a.tmps) (t el : TypeId) (es bytes : Nat) (x y : Operand) (z : List AV) (x' y' : Opd) (ho : o.op = .makeSlice t x y) (hx : opdOk x' x = true) (hy : opdOk y' y = true)
    (hel : und P t (fun d => match d with | .slice e => Nat.beq e el | _ => false) = true) (hs : szIs P el es = true) (hzl : Nat.beq z.length es = true) (hz : zeroIs P el z = true)
    (hby : (match P.info? el with | some i => Nat.beq i.bytes bytes | none => false) = true) (h : (IK.mkS el es bytes z x' y').ev T m = some (v, m')) : OpPost P ι m w (execOp a.eval o) v m' := by
  obtain ⟨sx, _⟩ := opd_sound ht hx
  obtain ⟨sy, _⟩ := opd_sound ht hy
  obtain ⟨d, hd, hbb⟩ := und_spec hel
  cases d <;> simp only at hbb <;> (try (cases hbb; done))
  obtain rfl := Nat.eq_of_beq_eq_true hbb
  obtain ⟨i, hi, rfl⟩ := szIs_spec hs
  obtain ⟨i', zv, hi', hzv, hvr, hbd⟩ := zeroIs_spec hz
  rw [hi] at hi'; cases hi'
  simp only [hi, Nat.beq_eq] at hby
  subst hby
  have hzl' : z.length = i.size := Nat.eq_of_beq_eq_true hzl
  have hzs : zv.cells.size = i.size := by have := (hvr ι).1; simp at this; omega
  simp only [IK.ev] at h
  split at h
  · rename_i len cap h1 h2
    obtain ⟨k1, e1⟩ := asN_spec h1 sx
    obtain ⟨k2, e2⟩ := asN_spec h2 sy
    cases hc : Nat.ble len cap && Nat.ble (i.bytes * cap) 1099511627776 && Nat.ble cap 1099511627776 && Nat.ble 1 i.size with
    | false => simp [hc] at h
    | true =>
      simp only [hc, cond_true, Option.some.injEq, Prod.mk.injEq] at h
      obtain ⟨rfl, rfl⟩ := h
      simp only [Bool.and_eq_true, Nat.ble_eq] at hc
      obtain ⟨⟨⟨c1, c2⟩, c3⟩, c4⟩ := hc
      have hrep := repl_spec (ι := ι) (hvr ι) cap
      have hsz : ((Array.range (cap * zv.cells.size)).map (zv.cells[· % zv.cells.size]!)).size = cap * i.size := by simp [hzs]
      refine news_post hm (c := (Array.range (cap * zv.cells.size)).map (zv.cells[· % zv.cells.size]!)) (cap' := cap) hrep.exists (by rw [hsz, repl_length, hzl']; exact Nat.le_refl _) (fun x hx => hbd _ x (repl_mem hx)) c1 (Nat.le_refl _) (fun _ => rfl) (by rw [hsz]; exact Nat.le_refl _) ?_
      simp only [execOp, ho, e1, e2]
      refine run_v ?_
      have w1 : IntKind.i64.wrap (len : Int) = len := by simp only [IntKind.wrap, IntKind.bits, IntKind.signed]; simp; omega
      have w2 : IntKind.i64.wrap (cap : Int) = cap := by simp only [IntKind.wrap, IntKind.bits, IntKind.signed]; simp; omega
      have hbig : ¬ ((i.bytes : Int) * (cap : Int) > 2 ^ 48) := by
        have e3 : ((i.bytes : Int) * (cap : Int)) = ((i.bytes * cap : Nat) : Int) := by simp
        rw [e3]; omega
      have t1 : (decide ((cap : Int) < 0) || decide ((i.bytes : Int) * (cap : Int) > 2 ^ 48)) = false := by simp; omega
      have t2 : ((decide ((cap : Int) < 0) || decide ((i.bytes : Int) * (cap : Int) > 2 ^ 48)) || decide ((len : Int) < 0) || decide ((len : Int) > (cap : Int))) = false := by rw [t1]; simp; omega
      by_cases h0 : cap * i.size = 0
      · have hcap : cap = 0 := by rcases Nat.mul_eq_zero.1 h0 with h | h <;> omega
        subst hcap
        simp only [Instr.makeSlice, Sem.run_bind, run_underlying hd, Result.andThen_ok, asInt, asIntOf, Sem.run_pure, run_typeInfo' hi, w1, w2, t2, Bool.false_eq_true, if_false, run_askRoom, run_sizeOf' hi, Int.toNat_natCast, h0, if_true, newRow, run_newObj, map_range_zero, Nat.zero_mul]
        rfl
      · simp only [Instr.makeSlice, Sem.run_bind, run_underlying hd, Result.andThen_ok, asInt, asIntOf, Sem.run_pure, run_typeInfo' hi, w1, w2, t2, Bool.false_eq_true, if_false, run_askRoom, run_sizeOf' hi, Int.toNat_natCast, h0, run_zeroValue' hi hzv, newRow, run_newObj, hzs]
        rfl
  · cases h

end
end Go.Em
