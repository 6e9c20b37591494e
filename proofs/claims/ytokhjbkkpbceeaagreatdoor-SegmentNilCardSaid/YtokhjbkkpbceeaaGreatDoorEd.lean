/- When an instruction of the abstract machine stands for an operation of the model; the first half of the proof. -/
import Derived.Test.YtokhjbkkpbceeaaGreatDoorEc
import Derived.Laws.Tables
import Derived.Laws.BytesString
import Derived.Laws.IdiomStrings
import Derived.Lib.AppendStr
namespace Go.Em
open Go
set_option linter.unusedSimpArgs false
set_option linter.unusedVariables false

/-! ### Constants and operands -/

def bytesEq : List UInt8 → List UInt8 → Bool
  | [], [] => true
  | a :: x, b :: y => Nat.beq a.toNat b.toNat && bytesEq x y
  | _, _ => false
theorem bytesEq_spec : ∀ {x y : List UInt8}, bytesEq x y = true → x = y
  | [], [], _ => rfl
  | a :: x, b :: y, h => by
    simp only [bytesEq, Bool.and_eq_true, Nat.beq_eq] at h
    rw [UInt8.toNat_inj.1 h.1, bytesEq_spec h.2]
  | [], _ :: _, h => by simp [bytesEq] at h
  | _ :: _, [], h => by simp [bytesEq] at h

def leafOk : AV → Value → Bool
  | .b x, .bool y => x == y
  | .i k n, .int k' n' => decide (k = k') && decide (n = n')
  | .s x, .string y => bytesEq x y.data.toList
  | .p none, .pointer none => true
  | .sl none 0 0 true, .slice none 0 0 => true
  | .nf, .nilFunc => true
  | .ni, .nilIface => true
  | _, _ => false
def leafsOk : List AV → List Value → Bool
  | [], [] => true
  | x :: xs, y :: ys => leafOk x y && leafsOk xs ys
  | _, _ => false
def cstOk : AV → Value → Bool
  | .ag cs, .agg ds => leafsOk cs ds.toList
  | .tp [], .tuple ds => ds.toList.isEmpty
  | x, y => leafOk x y

theorem leafOk_spec {x : AV} {y : Value} (h : leafOk x y = true) : (∀ ι, VR ι x y) ∧ ∀ n, Bd n x := by
  unfold leafOk at h
  split at h <;> (try (cases h; done))
  · simp only [beq_iff_eq] at h; subst h; exact ⟨fun ι => .b _, fun n r hr => by cases hr⟩
  · simp only [Bool.and_eq_true, decide_eq_true_eq] at h; obtain ⟨rfl, rfl⟩ := h; exact ⟨fun ι => .i _ _, fun n r hr => by cases hr⟩
  · rename_i x y
    have := bytesEq_spec h
    subst this
    exact ⟨fun ι => by
      have e : y = ⟨y.data.toList.toArray⟩ := by cases y; simp
      have := VR.s (ι := ι) y.data.toList
      rwa [← e] at this, fun n r hr => by cases hr⟩
  · exact ⟨fun ι => .pn, fun n r hr => by cases hr⟩
  · exact ⟨fun ι => .sn, fun n r hr => by cases hr⟩
  · exact ⟨fun ι => .nf, fun n r hr => by cases hr⟩
  · exact ⟨fun ι => .ni, fun n r hr => by cases hr⟩
theorem leafsOk_spec : ∀ {xs : List AV} {ys : List Value}, leafsOk xs ys = true → (∀ ι, VRs ι xs ys) ∧ ∀ n, ∀ x ∈ xs, Bd n x
  | [], [], _ => ⟨fun ι => .nil ι, fun n x hx => by cases hx⟩
  | x :: xs, y :: ys, h => by
    simp only [leafsOk, Bool.and_eq_true] at h
    have h1 := leafOk_spec h.1
    have h2 := leafsOk_spec h.2
    exact ⟨fun ι => .cons (h1.1 ι) (h2.1 ι), fun n z hz => by
      rcases List.mem_cons.1 hz with rfl | hz
      · exact h1.2 n
      · exact h2.2 n z hz⟩
  | [], _ :: _, h => by simp [leafsOk] at h
  | _ :: _, [], h => by simp [leafsOk] at h
theorem cstOk_spec {x : AV} {y : Value} (h : cstOk x y = true) : (∀ ι, VR ι x y) ∧ ∀ n, Bd n x := by
  unfold cstOk at h
  split at h
  · have := leafsOk_spec h
    refine ⟨fun ι => ?_, fun n r hr => ?_⟩
    · simpa using (this.1 ι).ag
    · cases hr with
      | ag _ x hx hr => exact this.2 n x hx r hr
  · rename_i ds
    refine ⟨fun ι => ?_, fun n r hr => by cases hr with | tp _ x hx _ => cases hx⟩
    have : ds = #[] := by
      have : ds.toList = [] := by simpa using h
      simpa using this
    subst this
    exact .tp [] #[] rfl fun k x y hx => by simp at hx
  · exact leafOk_spec h

def opdOk : Opd → Operand → Bool
  | .t n, .tmp m => Nat.beq n m
  | .c v, .const c => cstOk v c
  | .c (.fn (.func f) [] []), .func g => Nat.beq f g
  | _, _ => false
def opdsOk : List Opd → List Operand → Bool
  | [], [] => true
  | x :: xs, y :: ys => opdOk x y && opdsOk xs ys
  | _, _ => false
def opdOptOk : Option Opd → Option Operand → Bool
  | none, none => true
  | some x, some y => opdOk x y
  | _, _ => false

/-- The slots of a frame. -/
structure TR (ι : Emb) (n : Nat) (T : List AV) (t : Array Value) : Prop where
  len : T.length = t.size
  vr : ∀ (k : Nat) (x : AV) (y : Value), T[k]? = some x → t[k]? = some y → VR ι x y
  bd : ∀ x ∈ T, Bd n x

theorem TR.agree {ι κ : Emb} {n m : Nat} {T : List AV} {t : Array Value} (h : TR ι n T t) (ha : ∀ r, r < n → (ι r).ok = true → κ r = ι r) (hm : n ≤ m) : TR κ m T t :=
  ⟨h.len, fun k x y hx hy => (h.vr k x y hx hy).agree (h.bd x (List.mem_of_getElem? hx)) ha, fun x hx => (h.bd x hx).mono hm⟩

theorem Bd.u (n : Nat) : Bd n .u := fun r hr => by cases hr

theorem opd_sound {ι : Emb} {n : Nat} {T : List AV} {a : Act} (h : TR ι n T a.tmps) {x : Opd} {y : Operand} (hx : opdOk x y = true) :
    VR ι (x.ev T) (a.eval y) ∧ Bd n (x.ev T) := by
  unfold opdOk at hx
  split at hx <;> (try (cases hx; done))
  · rename_i k m
    obtain rfl : k = m := Nat.eq_of_beq_eq_true hx
    simp only [Opd.ev, Act.eval]
    rcases Nat.lt_or_ge k T.length with hk | hk
    · have hk' : k < a.tmps.size := h.len ▸ hk
      refine ⟨?_, ?_⟩
      · have := h.vr k T[k] a.tmps[k] (by simp [hk]) (by simp [hk'])
        simpa [hk, hk', Array.getD] using this
      · simpa [hk] using h.bd T[k] (List.getElem_mem hk)
    · rw [List.getElem?_eq_none hk]
      exact ⟨.u _, Bd.u n⟩
  · exact ⟨(cstOk_spec hx).1 ι, (cstOk_spec hx).2 n⟩
  · rename_i f g
    obtain rfl : f = g := Nat.eq_of_beq_eq_true hx
    refine ⟨.fn _ [] [] #[] #[] rfl rfl rfl (fun k x y hx => by simp at hx) (fun k x y hx => by simp at hx), fun r hr => ?_⟩
    simp only [Opd.ev] at hr
    cases hr with
    | fn1 _ _ _ x hx _ => cases hx
    | fn2 _ _ _ x hx _ => cases hx

theorem opds_sound {ι : Emb} {n : Nat} {T : List AV} {a : Act} (h : TR ι n T a.tmps) : ∀ {xs : List Opd} {ys : List Operand}, opdsOk xs ys = true →
    VRs ι (xs.map (·.ev T)) (ys.map a.eval) ∧ ∀ v ∈ xs.map (·.ev T), Bd n v
  | [], [], _ => ⟨.nil ι, fun v hv => by cases hv⟩
  | x :: xs, y :: ys, hx => by
    simp only [opdsOk, Bool.and_eq_true] at hx
    have h1 := opd_sound h hx.1
    have h2 := opds_sound h hx.2
    refine ⟨.cons h1.1 h2.1, fun v hv => ?_⟩
    simp only [List.map_cons, List.mem_cons] at hv
    rcases hv with rfl | hv
    · exact h1.2
    · exact h2.2 v hv
  | [], _ :: _, hx => by simp [opdsOk] at hx
  | _ :: _, [], hx => by simp [opdsOk] at hx

/-! ### Types -/

def und (P : Program) (t : TypeId) (f : TypeDesc → Bool) : Bool := match P.underlying t with | some d => f d | none => false
theorem und_spec {P : Program} {t : TypeId} {f : TypeDesc → Bool} (h : und P t f = true) : ∃ d, P.underlying t = some d ∧ f d = true := by
  unfold und at h; split at h
  · exact ⟨_, by assumption, h⟩
  · cases h
def szIs (P : Program) (t : TypeId) (n : Nat) : Bool := match P.info? t with | some i => Nat.beq i.size n | none => false
theorem szIs_spec {P : Program} {t : TypeId} {n : Nat} (h : szIs P t n = true) : ∃ i, P.info? t = some i ∧ i.size = n := by
  unfold szIs at h; split at h
  · exact ⟨_, by assumption, Nat.eq_of_beq_eq_true h⟩
  · cases h
def zeroIs (P : Program) (t : TypeId) (z : List AV) : Bool :=
  match P.info? t with
  | some i => (match i.zero with | some v => leafsOk z v.cells.toList | none => false)
  | none => false
theorem zeroIs_spec {P : Program} {t : TypeId} {z : List AV} (h : zeroIs P t z = true) : ∃ i v, P.info? t = some i ∧ i.zero = some v ∧ (∀ ι, VRs ι z v.cells.toList) ∧ ∀ n, ∀ x ∈ z, Bd n x := by
  unfold zeroIs at h
  cases hi : P.info? t with
  | none => simp [hi] at h
  | some i =>
    cases hz : i.zero with
    | none => simp [hi, hz] at h
    | some v =>
      simp only [hi, hz] at h
      have := leafsOk_spec h
      exact ⟨i, v, rfl, hz, this.1, this.2⟩
def aggIs (P : Program) (t : TypeId) (b : Bool) : Bool := und P t fun d => (match d with | .struct _ | .array _ _ => true | _ => false) == b
theorem run_isAgg {P : Program} {t : TypeId} {b : Bool} (h : aggIs P t b = true) (w : World) : (isAgg t).run P w = .ok b w := by
  obtain ⟨d, hd, hb⟩ := und_spec h
  simp only [isAgg, Sem.run_bind, run_underlying hd, Result.andThen_ok]
  simp only [beq_iff_eq] at hb
  subst hb
  cases d <;> rfl
theorem run_sizeOf' {P : Program} {t : TypeId} {i : TypeInfo} (h : P.info? t = some i) (w : World) : (sizeOf t).run P w = .ok i.size w := by
  simp [sizeOf, typeInfo, h]
theorem run_typeInfo' {P : Program} {t : TypeId} {i : TypeInfo} (h : P.info? t = some i) (w : World) : (typeInfo t).run P w = .ok i w := by
  simp [typeInfo, h]
theorem run_zeroValue' {P : Program} {t : TypeId} {i : TypeInfo} {v : Value} (h : P.info? t = some i) (hz : i.zero = some v) (w : World) : (zeroValue t).run P w = .ok v w := by
  simp [zeroValue, typeInfo, h, hz]

/-! ### What an operation comes to -/

/-- The model's operation comes to what the instruction says. -/
def OpPost (P : Program) (ι : Emb) (m : Mem) (w : World) (res : Sem Next) (v : AV) (m' : Mem) : Prop :=
  ∃ (κ : Emb) (nx : Next) (cv : Value) (w' : World), res.run P w = .ok nx w' ∧ (nx = .value cv ∨ (nx = .skip ∧ cv = undef)) ∧ VR κ v cv ∧ Bd m'.top v ∧ HR κ m'.hv w' ∧ Ext ι m.hv w κ m'.hv w'

theorem OpPost.same {P : Program} {ι : Emb} {m : Mem} {w : World} {res : Sem Next} {v : AV} {cv : Value} (hm : HR ι m.hv w) (hr : res.run P w = .ok (.value cv) w) (hv : VR ι v cv) (hb : Bd m.top v) :
    OpPost P ι m w res v m := ⟨ι, _, cv, w, hr, .inl rfl, hv, hb, hm, .refl _ _ _⟩

theorem Bd.leaf {n : Nat} {v : AV} (h : ∀ r, ¬ Rf r v) : Bd n v := fun r hr => absurd hr (h r)
theorem bd_i (n : Nat) (k : IntKind) (x : Int) : Bd n (.i k x) := Bd.leaf fun r hr => by cases hr
theorem bd_b (n : Nat) (x : Bool) : Bd n (.b x) := Bd.leaf fun r hr => by cases hr
theorem bd_s (n : Nat) (x : List UInt8) : Bd n (.s x) := Bd.leaf fun r hr => by cases hr
theorem bd_p {n a o : Nat} (h : a < n) : Bd n (.p (some (a, o))) := fun r hr => by cases hr; exact h
theorem bd_sl {n a o l c : Nat} {e : Bool} (h : a < n) : Bd n (.sl (some (a, o)) l c e) := fun r hr => by cases hr; exact h
theorem bd_ag {n : Nat} {cs : List AV} (h : ∀ x ∈ cs, Bd n x) : Bd n (.ag cs) := fun r hr => by
  cases hr with
  | ag _ x hx hr => exact h x hx r hr
theorem Bd.ag {n : Nat} {cs : List AV} (h : Bd n (.ag cs)) : ∀ x ∈ cs, Bd n x := fun x hx r hr => h r (.ag cs x hx hr)
theorem bd_tp {n : Nat} {cs : List AV} (h : ∀ x ∈ cs, Bd n x) : Bd n (.tp cs) := fun r hr => by
  cases hr with
  | tp _ x hx hr => exact h x hx r hr
theorem Bd.tp {n : Nat} {cs : List AV} (h : Bd n (.tp cs)) : ∀ x ∈ cs, Bd n x := fun x hx r hr => h r (.tp cs x hx hr)
theorem Bd.p {n a o : Nat} (h : Bd n (.p (some (a, o)))) : a < n := h a (.p o)
theorem Bd.sl {n a o l c : Nat} {e : Bool} (h : Bd n (.sl (some (a, o)) l c e)) : a < n := h a (.sl o l c e)

theorem cells_bd {n : Nat} {v : AV} (h : Bd n v) : ∀ x ∈ v.cells, Bd n x := by
  unfold AV.cells
  split
  · exact h.ag
  · intro x hx; simp at hx; subst hx; exact h

theorem isU_ne {v : AV} (h : isU v = false) : v ≠ .u := fun e => by subst e; cases h
/-- The cells of a value stand for the cells of the model's. -/
theorem VR.cells {ι : Emb} {x : AV} {y : Value} (h : VR ι x y) (hu : x ≠ .u) : VRs ι x.cells y.cells.toList := by
  cases h with
  | u => exact absurd rfl hu
  | ag cs ds h h2 => exact ⟨by simpa [AV.cells, Value.cells] using h, fun k x y hx hy => h2 k x y hx (by simpa [Value.cells] using hy)⟩
  | b x => exact VRs.cons (.b x) (.nil ι)
  | i k n => exact VRs.cons (.i k n) (.nil ι)
  | s x => exact VRs.cons (.s x) (.nil ι)
  | pn => exact VRs.cons .pn (.nil ι)
  | p a o h0 => exact VRs.cons (.p a o h0) (.nil ι)
  | sn => exact VRs.cons .sn (.nil ι)
  | sl a o len cap exact cap' h0 h1 h2 h3 h4 => exact VRs.cons (.sl a o len cap exact cap' h0 h1 h2 h3 h4) (.nil ι)
  | se a o ad cap' => exact VRs.cons (.se a o ad cap') (.nil ι)
  | yl a h0 => exact VRs.cons (.yl a h0) (.nil ι)
  | fn f xs ys us vs h0 h1 h2 h3 h4 => exact VRs.cons (.fn f xs ys us vs h0 h1 h2 h3 h4) (.nil ι)
  | nf => exact VRs.cons .nf (.nil ι)
  | ifc t x y h => exact VRs.cons (.ifc t x y h) (.nil ι)
  | ni => exact VRs.cons .ni (.nil ι)
  | tp cs ds h h2 => exact VRs.cons (.tp cs ds h h2) (.nil ι)

theorem VRs.exists {ι : Emb} {xs : List AV} {c : Array Value} (h : VRs ι xs c.toList) : ∀ (j : Nat) (v : AV), xs[j]? = some v → ∃ cv : Value, c[j]? = some cv ∧ VR ι v cv := fun j v hj => by
  obtain ⟨y, hy, hr⟩ := h.get hj
  exact ⟨y, by simpa using hy, hr⟩

theorem new_post {P : Program} {ι : Emb} {m : Mem} {w : World} (hm : HR ι m.hv w) {res : Sem Next} {el : TypeId} {es : Nat} {cs : List AV} {c : Array Value}
    (hv : VRs ι cs c.toList) (hb : ∀ x ∈ cs, Bd m.top x) (hr : res.run P w = .ok (.value (.pointer (some ⟨w.heap.size, 0, none⟩))) (w.alloc (.cells c el))) :
    OpPost P ι m w res (.p (some (m.top, 0))) (m.push (some { cells := cs, el := el, es := es, ro := false })) := by
  obtain ⟨h1, h2⟩ := push_spec hm { cells := cs, el := el, es := es, ro := false } rfl c (by simp [hv.1]) hv.exists hb
  refine ⟨_, _, _, _, hr, .inl rfl, ?_, bd_p (by rw [m.top_push]; omega), h1, h2⟩
  have e := VR.p (ι := fun r => if r = m.top then (⟨w.heap.size, 0, c.size, es, true⟩ : Loc) else ι r) m.top 0 (by simp)
  simpa using e

theorem news_post {P : Program} {ι : Emb} {m : Mem} {w : World} (hm : HR ι m.hv w) {res : Sem Next} {el : TypeId} {es : Nat} {cs : List AV} {c : Array Value} {len cap cap' : Nat} {exact : Bool}
    (hv : ∀ (j : Nat) (v : AV), cs[j]? = some v → ∃ cv : Value, c[j]? = some cv ∧ VR ι v cv) (hl : cs.length ≤ c.size) (hb : ∀ x ∈ cs, Bd m.top x)
    (h1 : len ≤ cap') (h2 : cap ≤ cap') (h3 : exact = true → cap' = cap) (h4 : cap' * es ≤ c.size)
    (hr : res.run P w = .ok (.value (.slice (some ⟨w.heap.size, 0, none⟩) len cap')) (w.alloc (.cells c el))) :
    OpPost P ι m w res (.sl (some (m.top, 0)) len cap exact) (m.push (some { cells := cs, el := el, es := es, ro := false })) := by
  obtain ⟨g1, g2⟩ := push_spec hm { cells := cs, el := el, es := es, ro := false } rfl c hl hv hb
  refine ⟨_, _, _, _, hr, .inl rfl, ?_, bd_sl (by rw [m.top_push]; omega), g1, g2⟩
  have e := VR.sl (ι := fun r => if r = m.top then (⟨w.heap.size, 0, c.size, es, true⟩ : Loc) else ι r) m.top 0 len cap exact cap' (by simp) h1 h2 h3 (by simpa using h4)
  simpa using e

/-! ### Filling the parts of a struct, an array or a slice -/

theorem foldl_set (o : Nat) : ∀ (vs : List Value) (j : Nat) (cs : Array Value), o + j + vs.length ≤ cs.size →
    ((vs.zipIdx j).foldl (fun cs (x : Value × Nat) => cs.setIfInBounds (o + x.2) x.1) cs).toList = cs.toList.take (o + j) ++ (vs ++ cs.toList.drop (o + j + vs.length))
  | [], j, cs, _ => by simp
  | v :: vs, j, cs, h => by
    simp only [List.zipIdx_cons, List.foldl_cons]
    simp only [List.length_cons] at h
    rw [foldl_set o vs (j + 1) _ (by simp; omega)]
    apply List.ext_getElem?
    intro k
    simp only [Array.toList_setIfInBounds, List.length_cons]
    have hlen : cs.toList.length = cs.size := by simp
    by_cases c1 : k < o + j
    · rw [List.getElem?_append_left (by simp; omega), List.getElem?_append_left (by simp; omega), List.getElem?_take, List.getElem?_take, if_pos (by omega), if_pos c1, List.getElem?_set_ne (by omega)]
    · by_cases c2 : k = o + j
      · subst c2
        rw [List.getElem?_append_left (by simp; omega), List.getElem?_take, if_pos (by omega), List.getElem?_set_self (by simp; omega), List.getElem?_append_right (by simp; omega)]
        have : (cs.toList.take (o + j)).length = o + j := by simp; omega
        simp [this]
      · have e1 : ((cs.toList.set (o + j) v).take (o + (j + 1))).length = o + j + 1 := by rw [List.length_take, List.length_set, hlen]; omega
        have e2 : (cs.toList.take (o + j)).length = o + j := by rw [List.length_take, hlen]; omega
        have L : (List.take (o + (j + 1)) (cs.toList.set (o + j) v) ++ (vs ++ List.drop (o + (j + 1) + vs.length) (cs.toList.set (o + j) v)))[k]? =
            (vs ++ List.drop (o + (j + 1) + vs.length) (cs.toList.set (o + j) v))[k - (o + j + 1)]? := by
          rw [List.getElem?_append_right (by rw [e1]; omega), e1]
        have R : (List.take (o + j) cs.toList ++ (v :: vs ++ List.drop (o + j + (vs.length + 1)) cs.toList))[k]? = (vs ++ List.drop (o + j + (vs.length + 1)) cs.toList)[k - (o + j + 1)]? := by
          rw [List.getElem?_append_right (by rw [e2]; omega), e2, show k - (o + j) = (k - (o + j + 1)) + 1 by omega, List.cons_append, List.getElem?_cons_succ]
        rw [L, R]
        by_cases c3 : k - (o + j + 1) < vs.length
        · rw [List.getElem?_append_left c3, List.getElem?_append_left c3]
        · rw [List.getElem?_append_right (by omega), List.getElem?_append_right (by omega), List.getElem?_drop, List.getElem?_drop, List.getElem?_set_ne (by omega)]
          congr 1; omega

/-- The parts in the instruction are those of the operation, each at its place. -/
def partsOk (place : Nat → Option (Nat × Nat)) : List (Nat × Operand) → List (Nat × Nat × Opd) → Bool
  | [], [] => true
  | (i, x) :: r, (o, n, y) :: s => (match place i with | some (o', n') => Nat.beq o o' && Nat.beq n n' | none => false) && opdOk y x && partsOk place r s
  | _, _ => false

theorem fill_sound {ι : Emb} {n : Nat} {T : List AV} {a : Act} (ht : TR ι n T a.tmps) (place : Nat → Option (Nat × Nat)) :
    ∀ (ps : List (Nat × Operand)) (qs : List (Nat × Nat × Opd)) (cs : List AV) (ds : Array Value) (rs : List AV), partsOk place ps qs = true → VRs ι cs ds.toList → (∀ x ∈ cs, Bd n x) →
    fillP T cs qs = some rs → ∃ es : Array Value, Instr.fill place ds (ps.map fun (i, x) => (i, a.eval x)) = some es ∧ VRs ι rs es.toList ∧ ∀ x ∈ rs, Bd n x
  | [], [], cs, ds, rs, _, hv, hb, h => by
    simp only [fillP, Option.some.injEq] at h
    subst h
    exact ⟨ds, rfl, hv, hb⟩
  | (i, x) :: ps, (o, k, y) :: qs, cs, ds, rs, hp, hv, hb, h => by
    simp only [partsOk, Bool.and_eq_true] at hp
    obtain ⟨⟨hp1, hp2⟩, hp3⟩ := hp
    cases hpl : place i with
    | none => simp [hpl] at hp1
    | some q =>
      obtain ⟨o', k'⟩ := q
      simp only [hpl, Bool.and_eq_true, Nat.beq_eq] at hp1
      obtain ⟨rfl, rfl⟩ := hp1
      simp only [fillP] at h
      cases c1 : Nat.beq (y.ev T).cells.length k with
      | false => simp [c1] at h
      | true =>
        cases c2 : Nat.ble (o + k) cs.length with
        | false => simp [c1, c2] at h
        | true =>
          cases c0 : isU (y.ev T) with
          | true => simp [c0] at h
          | false =>
          simp only [c0, c1, c2, cond_true, cond_false] at h
          have c1' := Nat.eq_of_beq_eq_true c1
          have c2' := Nat.le_of_ble_eq_true c2
          have hx := opd_sound ht hp2
          have hcells := hx.1.cells (isU_ne c0)
          have hl := hcells.1
          have hcl := hv.1
          simp at hcl
          have hsz : (a.eval x).cells.size = k := by rw [← c1', hl]; simp
          have hset := foldl_set o (a.eval x).cells.toList 0 ds (by simp; omega)
          have hfold : ((a.eval x).cells.zipIdx.foldl (fun cs (x : Value × Nat) => cs.setIfInBounds (o + x.2) x.1) ds).toList =
              ds.toList.take o ++ ((a.eval x).cells.toList ++ ds.toList.drop (o + k)) := by
            rw [← Array.foldl_toList, Array.toList_zipIdx, hset]
            simp [hsz]
          have hv' : VRs ι (cs.take o ++ ((y.ev T).cells ++ cs.drop (o + k))) ((a.eval x).cells.zipIdx.foldl (fun cs (x : Value × Nat) => cs.setIfInBounds (o + x.2) x.1) ds).toList := by
            rw [hfold]
            exact (hv.take o).append (hcells.append (hv.drop (o + k)))
          obtain ⟨es, he, hve, hbe⟩ := fill_sound ht place ps qs _ _ rs hp3 hv' (fun z hz => by
            simp only [List.mem_append] at hz
            rcases hz with h | h | h
            · exact hb z (List.mem_of_mem_take h)
            · exact cells_bd hx.2 z h
            · exact hb z (List.mem_of_mem_drop h)) h
          refine ⟨es, ?_, hve, hbe⟩
          simp only [List.map_cons, Instr.fill, hpl]
          rw [if_neg (by simp [hsz]; omega)]
          exact he
  | [], _ :: _, _, _, _, hp, _, _, _ => by simp [partsOk] at hp
  | _ :: _, [], _, _, _, hp, _, _, _ => by simp [partsOk] at hp

end Go.Em
