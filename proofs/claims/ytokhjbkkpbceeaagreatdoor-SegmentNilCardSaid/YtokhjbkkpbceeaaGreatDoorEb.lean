/- The abstract machine's memory: reading, writing, new blocks; each against the model's memory. -/
import Derived.Test.YtokhjbkkpbceeaaGreatDoorEa
import Derived.Laws.CopyRow
import Derived.Laws.NewBlocks
import Derived.Deep.AppendSrc
namespace Go.Em
open Go
set_option linter.unusedSimpArgs false
set_option linter.unusedVariables false

/-- The memory while a function runs: what it found (n blocks), what it changed of that, what it added. -/
structure Mem where
  n : Nat
  old : Nat → Option Blk
  upd : List (Nat × Option Blk)
  ext : List (Option Blk)

def lookU : List (Nat × Option Blk) → Nat → Option (Option Blk)
  | [], _ => none
  | (j, b) :: r, i => bif Nat.beq j i then some b else lookU r i
def Mem.look (m : Mem) (i : Nat) : Option Blk :=
  bif Nat.blt i m.n then (match lookU m.upd i with | some b => b | none => m.old i)
  else (match m.ext[i - m.n]? with | some b => b | none => none)
def setU : List (Nat × Option Blk) → Nat → Option Blk → List (Nat × Option Blk)
  | [], i, b => [(i, b)]
  | (j, c) :: r, i, b => bif Nat.beq j i then (i, b) :: r else (j, c) :: setU r i b
def Mem.put (m : Mem) (i : Nat) (b : Option Blk) : Mem :=
  bif Nat.blt i m.n then { m with upd := setU m.upd i b } else { m with ext := m.ext.set (i - m.n) b }
def Mem.push (m : Mem) (b : Option Blk) : Mem := { m with ext := m.ext ++ [b] }
def Mem.top (m : Mem) : Nat := m.n + m.ext.length
def Mem.hv (m : Mem) : Hv := ⟨m.top, m.look⟩

theorem beqF {i j : Nat} (h : ¬ i = j) : Nat.beq i j = false := by
  rw [← Bool.not_eq_true, Nat.beq_eq]; exact h

theorem lookU_setU (l : List (Nat × Option Blk)) (i j : Nat) (b : Option Blk) : lookU (setU l i b) j = if i = j then some b else lookU l j := by
  induction l with
  | nil =>
    simp only [setU, lookU]
    by_cases h : i = j
    · subst h; simp
    · simp [beqF h, h]
  | cons x r ih =>
    obtain ⟨k, c⟩ := x
    simp only [setU]
    by_cases hk : k = i
    · subst hk
      by_cases h : k = j
      · subst h; simp [lookU]
      · simp [lookU, h, beqF h]
    · by_cases h : i = j
      · subst h; simp [lookU, hk, ih, beqF hk]
      · by_cases hkj : k = j
        · subst hkj; simp [lookU, hk, h, beqF hk]
        · simp [lookU, hk, hkj, ih, h, beqF hk, beqF hkj]

theorem Mem.look_put (m : Mem) (i j : Nat) (b : Option Blk) (hi : i < m.top) : (m.put i b).look j = if i = j then b else m.look j := by
  unfold Mem.put
  by_cases h : i < m.n
  · have : Nat.blt i m.n = true := by simpa [Nat.blt_eq] using h
    simp only [this, cond_true]
    unfold Mem.look
    by_cases hj : j < m.n
    · have h2 : Nat.blt j m.n = true := by simpa [Nat.blt_eq] using hj
      simp only [h2, cond_true, lookU_setU]
      by_cases e : i = j <;> simp [e]
    · have h2 : Nat.blt j m.n = false := by rw [← Bool.not_eq_true, Nat.blt_eq]; exact hj
      have : ¬ i = j := by omega
      simp [h2, this]
  · have h1 : Nat.blt i m.n = false := by rw [← Bool.not_eq_true, Nat.blt_eq]; exact h
    simp only [h1, cond_false]
    unfold Mem.look
    simp only [Mem.top] at hi
    by_cases hj : j < m.n
    · have h2 : Nat.blt j m.n = true := by simpa [Nat.blt_eq] using hj
      have : ¬ i = j := by omega
      simp [h2, this]
    · have h2 : Nat.blt j m.n = false := by rw [← Bool.not_eq_true, Nat.blt_eq]; exact hj
      simp only [h2, cond_false, List.getElem?_set]
      by_cases e : i = j
      · subst e
        have : i - m.n < m.ext.length := by omega
        simp [this]
      · have : ¬ i - m.n = j - m.n := by omega
        simp [e, this]

theorem Mem.top_put (m : Mem) (i : Nat) (b : Option Blk) : (m.put i b).top = m.top := by
  unfold Mem.put Mem.top
  cases Nat.blt i m.n <;> simp
theorem Mem.top_push (m : Mem) (b : Option Blk) : (m.push b).top = m.top + 1 := by simp [Mem.push, Mem.top, Nat.add_assoc]
theorem Mem.look_push (m : Mem) (b : Option Blk) (j : Nat) : (m.push b).look j = if j = m.top then b else m.look j := by
  unfold Mem.push Mem.look Mem.top
  by_cases hj : j < m.n
  · have h2 : Nat.blt j m.n = true := by simpa [Nat.blt_eq] using hj
    have : ¬ j = m.n + m.ext.length := by omega
    simp [h2, this]
  · have h2 : Nat.blt j m.n = false := by rw [← Bool.not_eq_true, Nat.blt_eq]; exact hj
    simp only [h2, cond_false]
    by_cases e : j = m.n + m.ext.length
    · subst e; simp
    · by_cases h3 : j - m.n < m.ext.length
      · rw [List.getElem?_append_left h3]; simp [e]
      · rw [List.getElem?_append_right (by omega)]
        have h4 : m.ext[j - m.n]? = none := List.getElem?_eq_none (by omega)
        have h5 : [b][j - m.n - m.ext.length]? = none := List.getElem?_eq_none (by simp; omega)
        simp [h4, h5, e]
theorem Mem.look_lt (m : Mem) {i : Nat} {k : Blk} (h : m.look i = some k) : i < m.top := by
  unfold Mem.look at h
  by_cases hj : i < m.n
  · simp [Mem.top]; omega
  · have h2 : Nat.blt i m.n = false := by rw [← Bool.not_eq_true, Nat.blt_eq]; exact hj
    simp only [h2, cond_false] at h
    cases h3 : m.ext[i - m.n]? with
    | none => simp [h3] at h
    | some b =>
      have := (List.getElem?_eq_some_iff.1 h3).1
      simp only [Mem.top]; omega

/-- Cells of a block from an offset on. -/
def rd (m : Mem) (a o n : Nat) : Option (List AV) :=
  match m.look a with
  | some k => bif Nat.ble (o + n) k.cells.length then some ((k.cells.drop o).take n) else none
  | none => none

/-- Values that fit into one cell. -/
def AV.one : AV → Bool
  | .u | .ag _ | .tp _ => false
  | _ => true
def allOne : List AV → Bool
  | [] => true
  | x :: r => bif x.one then allOne r else false

def wr (m : Mem) (a o : Nat) (vs : List AV) : Option Mem :=
  match m.look a with
  | some k => bif k.ro then none else bif Nat.ble (o + vs.length) k.cells.length then
      (bif allOne vs then some (m.put a (some { k with cells := k.cells.take o ++ (vs ++ k.cells.drop (o + vs.length)) })) else none) else none
  | none => none

theorem VR.one {ι : Emb} {x : AV} {y : Value} (h : VR ι x y) (ho : x.one = true) : y.oneCell' = true := by
  cases h <;> first | rfl | simp [AV.one] at ho

theorem allOne_spec {vs : List AV} (h : allOne vs = true) : ∀ x ∈ vs, x.one = true := by
  induction vs with
  | nil => intro x hx; cases hx
  | cons y r ih =>
    unfold allOne at h
    cases hy : y.one
    · simp [hy] at h
    · simp [hy] at h
      intro x hx
      rcases List.mem_cons.1 hx with rfl | hx
      · exact hy
      · exact ih h x hx

theorem cell_of {w : World} {b o : Nat} {c : Array Value} {el : TypeId} {fr : Nat × Nat} {v : Value} (h : w.heap[b]? = some (.cells c el fr)) (hv : c[o]? = some v) :
    w.cell? ⟨b, o, none⟩ = some v := by simp [World.cell?, h, hv]

theorem add_addr (b o j : Nat) : (⟨b, o, none⟩ : Addr).add j = ⟨b, o + j, none⟩ := by
  unfold Addr.add; split <;> simp_all

/-- What is read stands for what the model reads. -/
theorem rd_spec {ι : Emb} {m : Mem} {w : World} (hm : HR ι m.hv w) {a o n : Nat} {vs : List AV} (h : rd m a o n = some vs) :
    ∃ cs : List Value, VRs ι vs cs ∧ (∀ v ∈ vs, Bd m.top v) ∧ cs.length = n ∧ ∀ j v, cs[j]? = some v → w.cell? ((⟨(ι a).b, (ι a).sh + o, none⟩ : Addr).add j) = some v := by
  unfold rd at h
  cases hk : m.look a with
  | none => simp [hk] at h
  | some k =>
    simp only [hk] at h
    cases hl : Nat.ble (o + n) k.cells.length with
    | false => simp [hl] at h
    | true =>
      simp only [hl, cond_true, Option.some.injEq] at h
      have hl' : o + n ≤ k.cells.length := Nat.le_of_ble_eq_true hl
      obtain ⟨_, _, hb, c, el, fr, h1, _, h3, h4⟩ := hm.blk a k hk
      subst h
      refine ⟨(c.toList.drop ((ι a).sh + o)).take n, ⟨by simp; omega, fun j x y hx hy => ?_⟩, fun v hv => hb v ?_, by simp; omega, fun j v hj => ?_⟩
      · rw [List.getElem?_take] at hx hy
        split at hx
        · rename_i hjn
          simp only [hjn, if_true, List.getElem?_drop] at hx hy
          obtain ⟨cv, hc, hvr⟩ := h4 _ _ hx
          rw [Array.getElem?_toList] at hy
          rw [show (ι a).sh + o + j = (ι a).sh + (o + j) by omega, hc] at hy
          cases hy; exact hvr
        · cases hx
      · exact List.mem_of_mem_drop (List.mem_of_mem_take hv)
      · rw [List.getElem?_take] at hj
        split at hj
        · rw [List.getElem?_drop, Array.getElem?_toList] at hj
          rw [add_addr]
          exact cell_of h1 hj
        · cases hj

/-- A write to one block. -/
theorem HR.set {ι : Emb} {m : Mem} {w : World} (hm : HR ι m.hv w) {a : Nat} {k k' : Blk} (hk : m.look a = some k) (hro : k.ro = false)
    (he : k'.el = k.el) (hs : k'.es = k.es) (hro' : k'.ro = false) (hbd : ∀ v ∈ k'.cells, Bd m.top v) {c' : Array Value}
    (hc : ∀ (c : Array Value) (el : TypeId) (fr : Nat × Nat), w.heap[(ι a).b]? = some (.cells c el fr) → c'.size = c.size ∧ k'.cells.length ≤ c'.size ∧ ∀ (j : Nat) (v : AV), k'.cells[j]? = some v → ∃ cv : Value, c'[j]? = some cv ∧ VR ι v cv) :
    HR ι (m.put a (some k')).hv (w.setRow (ι a).b c') ∧ Ext ι m.hv w ι (m.put a (some k')).hv (w.setRow (ι a).b c') := by
  have ha : a < m.top := m.look_lt hk
  have hbr := hm.blk a k hk
  have hlt := hbr.lt
  obtain ⟨h0, hes, hb, c, el, fr, h1, h2, h3, h4⟩ := hbr
  obtain ⟨rfl, h2b, h2c, h2d⟩ := h2 hro
  obtain ⟨q1, q2, q3⟩ := hc _ _ _ h1
  have hrow := setRow_heap w (ι a).b c c' el (0, 0) h1
  have hother : ∀ b, b ≠ (ι a).b → (w.setRow (ι a).b c').heap[b]? = w.heap[b]? := by
    intro b hb; simp [World.setRow, Array.getElem?_modify]; intro h; exact absurd h.symm hb
  have hsize : (w.setRow (ι a).b c').heap.size = w.heap.size := by simp [World.setRow]
  constructor
  · refine ⟨fun i q hi => ?_, fun i q hi => ?_, fun i j q r hi hj hq hne => ?_⟩
    · show i < (m.put a (some k')).top
      rw [m.top_put]
      change (m.put a (some k')).look i = some q at hi
      rw [m.look_put a i _ ha] at hi
      split at hi
      · omega
      · exact m.look_lt hi
    · change (m.put a (some k')).look i = some q at hi
      show BR ι (m.put a (some k')).top _ i q
      rw [m.top_put]
      rw [m.look_put a i _ ha] at hi
      by_cases e : a = i
      · subst e
        simp only [if_true, Option.some.injEq] at hi
        subst hi
        exact ⟨h0, by rw [hs]; exact hes, hbd, c', el, (0, 0), hrow, fun _ => ⟨rfl, by rw [he]; exact h2b, h2c, by rw [q1]; exact h2d⟩, by rw [h2c]; simpa using q2,
          by rw [h2c]; simpa using q3⟩
      · rw [if_neg e] at hi
        have hbi := hm.blk i q hi
        exact hbi.world (hother _ (fun h => hm.inj a i k q hk hi hro e h.symm))
    · change (m.put a (some k')).look i = some q at hi
      change (m.put a (some k')).look j = some r at hj
      rw [m.look_put a i _ ha] at hi
      rw [m.look_put a j _ ha] at hj
      by_cases e1 : a = i
      · subst e1
        rw [if_neg hne] at hj
        exact hm.inj a j k r hk hj hro hne
      · rw [if_neg e1] at hi
        by_cases e2 : a = j
        · subst e2
          exact hm.inj i a q k hi hk hq hne
        · rw [if_neg e2] at hj
          exact hm.inj i j q r hi hj hq hne
  · refine ⟨fun _ _ => rfl, by show m.top ≤ _; rw [Mem.hv, m.top_put]; exact Nat.le_refl _, by rw [hsize]; exact Nat.le_refl _, rfl, rfl, rfl, fun b hb hf => hother b ?_, fun i q hi => ?_⟩
    · exact fun h => hf a k hk hro h.symm
    · change (m.put a (some k')).look i = some q at hi
      rw [m.look_put a i _ ha] at hi
      by_cases e : a = i
      · subst e; exact .inr ⟨a, k, hk, fun _ => hro, rfl⟩
      · rw [if_neg e] at hi; exact .inr ⟨i, q, hi, id, rfl⟩

/-- What is written stands for what the model writes. -/
theorem wr_spec {P : Program} {ι : Emb} {m m' : Mem} {w : World} (hm : HR ι m.hv w) {a o : Nat} {vs : List AV} {us : List Value} (h : wr m a o vs = some m')
    (hv : VRs ι vs us) (hb : ∀ v ∈ vs, Bd m.top v) :
    ∃ w', (storeCells ⟨(ι a).b, (ι a).sh + o, none⟩ us).run P w = .ok () w' ∧ HR ι m'.hv w' ∧ Ext ι m.hv w ι m'.hv w' ∧ m'.top = m.top := by
  unfold wr at h
  cases hk : m.look a with
  | none => simp [hk] at h
  | some k =>
    simp only [hk] at h
    cases hro : k.ro with
    | true => simp [hro] at h
    | false =>
      cases hl : Nat.ble (o + vs.length) k.cells.length with
      | false => simp [hl, hro] at h
      | true =>
        cases hone : allOne vs with
        | false => simp [hl, hro, hone] at h
        | true =>
          simp only [hl, hro, hone, cond_true, cond_false, Option.some.injEq] at h
          have hl' : o + vs.length ≤ k.cells.length := Nat.le_of_ble_eq_true hl
          have hbr := hm.blk a k hk
          obtain ⟨h0, hes, hbd, c, el, fr, h1, h2, h3, h4⟩ := hbr
          obtain ⟨rfl, h2b, h2c, h2d⟩ := h2 hro
          have hlen : vs.length = us.length := hv.1
          have hst := run_storeCells_at P (ι a).b ((ι a).sh + o) el us 0 c w h1 (by rw [h2c] at h3 ⊢; simp at h3 ⊢; omega)
            (fun u hu => by
              obtain ⟨j, hj, hju⟩ := List.mem_iff_getElem.1 hu
              have hj' : j < vs.length := by omega
              exact (hv.2 j vs[j] u (by simp [hj']) (by simp [hj, hju])).one (allOne_spec hone _ (List.getElem_mem hj')))
          subst h
          have q := hm.set (k' := { cells := k.cells.take o ++ (vs ++ k.cells.drop (o + vs.length)), el := k.el, es := k.es, ro := false })
            (c' := (c.toList.take ((ι a).sh + o + 0) ++ us ++ c.toList.drop ((ι a).sh + o + 0 + us.length)).toArray) hk hro rfl rfl rfl (fun v hv' => by
            simp only [List.mem_append] at hv'
            rcases hv' with h | h | h
            · exact hbd v (List.mem_of_mem_take h)
            · exact hb v h
            · exact hbd v (List.mem_of_mem_drop h))
            (fun c0 el0 fr0 h0 => by
              rw [h1] at h0; cases h0
              rw [h2c] at h3 h4 ⊢
              have hcs : c.size = c.toList.length := by simp
              simp only [Nat.zero_add, Nat.add_zero] at h3 h4 ⊢
              refine ⟨?_, ?_, fun j v hj => ?_⟩
              · simp [hlen] at h3 hl' ⊢; omega
              · simp [hlen] at h3 hl' ⊢; omega
              · rw [List.getElem?_toArray]
                rw [List.append_assoc]
                by_cases c1 : j < o
                · rw [List.getElem?_append_left (by simp; omega), List.getElem?_take, if_pos c1] at hj
                  obtain ⟨cv, hcv, hr⟩ := h4 j v hj
                  refine ⟨cv, ?_, hr⟩
                  rw [List.getElem?_append_left (by simp; omega), List.getElem?_take, if_pos c1]; simpa using hcv
                · rw [List.getElem?_append_right (by simp; omega)] at hj
                  rw [List.getElem?_append_right (by simp; omega)]
                  have e1 : (List.take o k.cells).length = o := by simp; omega
                  have e2 : (List.take o c.toList).length = o := by simp; omega
                  rw [e1] at hj; rw [e2]
                  by_cases c2 : j - o < vs.length
                  · rw [List.getElem?_append_left c2] at hj
                    rw [List.getElem?_append_left (by omega)]
                    obtain ⟨y, hy, hr⟩ := hv.get hj
                    exact ⟨y, hy, hr⟩
                  · rw [List.getElem?_append_right (by omega), List.getElem?_drop] at hj
                    rw [List.getElem?_append_right (by omega), List.getElem?_drop]
                    rw [show o + vs.length + (j - o - vs.length) = j by omega] at hj
                    rw [show o + us.length + (j - o - us.length) = j by omega]
                    obtain ⟨cv, hcv, hr⟩ := h4 j v hj
                    exact ⟨cv, by simpa using hcv, hr⟩)
          exact ⟨_, hst, q.1, q.2, m.top_put _ _⟩

/-- A new block. -/
theorem push_spec {ι : Emb} {m : Mem} {w : World} (hm : HR ι m.hv w) (k : Blk) (hro : k.ro = false) (c : Array Value) (hl : k.cells.length ≤ c.size)
    (hv : ∀ (j : Nat) (v : AV), k.cells[j]? = some v → ∃ cv : Value, c[j]? = some cv ∧ VR ι v cv) (hb : ∀ v ∈ k.cells, Bd m.top v) :
    let κ : Emb := fun r => if r = m.top then ⟨w.heap.size, 0, c.size, k.es, true⟩ else ι r
    HR κ (m.push (some k)).hv (w.alloc (.cells c k.el)) ∧ Ext ι m.hv w κ (m.push (some k)).hv (w.alloc (.cells c k.el)) := by
  intro κ
  have hag' : ∀ r, r < m.top → κ r = ι r := fun r hr => by simp [κ]; omega
  have hag : ∀ r, r < m.top → (ι r).ok = true → κ r = ι r := fun r hr _ => hag' r hr
  have hnew : κ m.top = ⟨w.heap.size, 0, c.size, k.es, true⟩ := by simp [κ]
  have hpush : (w.alloc (.cells c k.el)).heap[w.heap.size]? = some (.cells c k.el (0, 0)) := by
    show (w.heap.push _)[w.heap.size]? = _
    simp
  have hold : ∀ b, b < w.heap.size → (w.alloc (.cells c k.el)).heap[b]? = w.heap[b]? := fun b hb => Go.RowKit.Below.heap_alloc _ _ _ hb
  constructor
  · refine ⟨fun i q hi => ?_, fun i q hi => ?_, fun i j q r hi hj hq hne => ?_⟩
    · exact Mem.look_lt _ hi
    · change (m.push (some k)).look i = some q at hi
      show BR κ (m.push (some k)).top _ i q
      rw [m.top_push]
      rw [m.look_push] at hi
      by_cases e : i = m.top
      · subst e
        simp only [if_true, Option.some.injEq] at hi
        subst hi
        refine ⟨by rw [hnew], by rw [hnew], fun v hv' => (hb v hv').mono (by omega), c, k.el, (0, 0), by rw [hnew]; exact hpush, fun _ => by rw [hnew]; exact ⟨rfl, rfl, rfl, rfl⟩, by rw [hnew]; simpa using hl, fun j v hj => ?_⟩
        obtain ⟨cv, h1, h2⟩ := hv j v hj
        exact ⟨cv, by rw [hnew]; simpa using h1, h2.agree (hb v (List.mem_of_getElem? hj)) hag⟩
      · rw [if_neg e] at hi
        have hi' := m.look_lt hi
        have hbi := hm.blk i q hi
        have h1 := hbi.weak (κ := κ) (m := m.top + 1) (hag' i hi') hag (Nat.le_succ _)
        exact h1.world (by rw [hag' i hi']; exact hold _ hbi.lt)
    · change (m.push (some k)).look i = some q at hi
      change (m.push (some k)).look j = some r at hj
      rw [m.look_push] at hi hj
      by_cases e1 : i = m.top
      · subst e1
        rw [if_neg (fun h => hne h.symm)] at hj
        rw [hnew, hag' j (m.look_lt hj)]
        have := (hm.blk j r hj).lt
        show w.heap.size ≠ (ι j).b
        omega
      · rw [if_neg e1] at hi
        rw [hag' i (m.look_lt hi)]
        by_cases e2 : j = m.top
        · subst e2
          rw [hnew]
          have := (hm.blk i q hi).lt
          show (ι i).b ≠ w.heap.size
          omega
        · rw [if_neg e2] at hj
          rw [hag' j (m.look_lt hj)]
          exact hm.inj i j q r hi hj hq hne
  · refine ⟨hag', by show m.top ≤ (m.push (some k)).top; rw [m.top_push]; omega, by (show w.heap.size ≤ (w.heap.push _).size; simp), rfl, rfl, rfl, fun b hb _ => hold b hb, fun i q hi => ?_⟩
    change (m.push (some k)).look i = some q at hi
    rw [m.look_push] at hi
    by_cases e : i = m.top
    · subst e; rw [hnew]; exact .inl (Nat.le_refl _)
    · rw [if_neg e] at hi
      rw [hag' i (m.look_lt hi)]
      exact .inr ⟨i, q, hi, id, rfl⟩

theorem HR.drew {ι : Emb} {H : Hv} {w : World} (h : HR ι H w) : HR ι H w.drew := ⟨h.dom, fun i k hi => (h.blk i k hi).world rfl, h.inj⟩
theorem Ext.drew {ι κ : Emb} {H K : Hv} {w w' : World} (h : Ext ι H w κ K w') : Ext ι H w κ K w'.drew := ⟨h.agree, h.n, h.size, h.tape, h.os, h.output, h.frame, h.sub⟩
theorem Ext.undrew {ι κ : Emb} {H K : Hv} {w w' : World} (h : Ext ι H w.drew κ K w') : Ext ι H w κ K w' := ⟨h.agree, h.n, h.size, h.tape, h.os, h.output, h.frame, h.sub⟩

end Go.Em
