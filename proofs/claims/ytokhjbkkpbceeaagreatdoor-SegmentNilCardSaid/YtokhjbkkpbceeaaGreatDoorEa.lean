/- An abstract machine for the program's functions: its values, its memory, and how both stand to the model's values and memory. -/
import Derived.Orders
import Derived.Below
import Derived.KernelRfl
namespace Go.Em
open Go

/-- Where an abstract block lies: the model's block, the shift of its first cell, the number of cells of the model's block, the cells of an element; and whether the place is known already. -/
structure Loc where
  b : Nat
  sh : Nat
  sz : Nat
  es : Nat
  ok : Bool

inductive AV where
  | u
  | b (x : Bool)
  | i (k : IntKind) (n : Int)
  | s (x : List UInt8)
  | p (a : Option (Nat × Nat))
  | sl (a : Option (Nat × Nat)) (len cap : Nat) (exact : Bool)
  | fn (f : Fn) (first captured : List AV)
  | nf
  | ifc (t : TypeId) (v : AV)
  | ni
  | ag (cs : List AV)
  | tp (vs : List AV)
  deriving Inhabited

abbrev Emb := Nat → Loc

/-- A function that is no yield. -/
def tame : Fn → Bool
  | .yield _ => false
  | _ => true

/-- An abstract value stands for a value of the model. -/
inductive VR (ι : Emb) : AV → Value → Prop where
  | u (v : Value) : VR ι .u v
  | b (x : Bool) : VR ι (.b x) (.bool x)
  | i (k : IntKind) (n : Int) : VR ι (.i k n) (.int k n)
  | s (x : List UInt8) : VR ι (.s x) (.string ⟨x.toArray⟩)
  | pn : VR ι (.p none) (.pointer none)
  | p (a o : Nat) (h0 : (ι a).ok = true) : VR ι (.p (some (a, o))) (.pointer (some ⟨(ι a).b, (ι a).sh + o, none⟩))
  | sn : VR ι (.sl none 0 0 true) (.slice none 0 0)
  | sl (a o len cap : Nat) (exact : Bool) (cap' : Nat) (h0 : (ι a).ok = true) (h1 : len ≤ cap') (h2 : cap ≤ cap') (h3 : exact = true → cap' = cap)
      (h4 : (ι a).sh + o + cap' * (ι a).es ≤ (ι a).sz) :
      VR ι (.sl (some (a, o)) len cap exact) (.slice (some ⟨(ι a).b, (ι a).sh + o, none⟩) len cap')
  | se (a o : Nat) (ad : Addr) (cap' : Nat) : VR ι (.sl (some (a, o)) 0 0 false) (.slice (some ad) 0 cap')
  | yl (a : Nat) (h0 : (ι a).ok = true) : VR ι (.fn (.yield a) [] []) (.func (.yield (ι a).b) #[] #[])
  | fn (f : Fn) (xs ys : List AV) (us vs : Array Value) (h0 : tame f = true) (h1 : xs.length = us.size) (h2 : ys.length = vs.size)
      (h3 : ∀ (k : Nat) (x : AV) (y : Value), xs[k]? = some x → us[k]? = some y → VR ι x y) (h4 : ∀ (k : Nat) (x : AV) (y : Value), ys[k]? = some x → vs[k]? = some y → VR ι x y) :
      VR ι (.fn f xs ys) (.func f us vs)
  | nf : VR ι .nf .nilFunc
  | ifc (t : TypeId) (x : AV) (y : Value) (h : VR ι x y) : VR ι (.ifc t x) (.iface t y)
  | ni : VR ι .ni .nilIface
  | ag (cs : List AV) (ds : Array Value) (h : cs.length = ds.size) (h2 : ∀ (k : Nat) (x : AV) (y : Value), cs[k]? = some x → ds[k]? = some y → VR ι x y) :
      VR ι (.ag cs) (.agg ds)
  | tp (cs : List AV) (ds : Array Value) (h : cs.length = ds.size) (h2 : ∀ (k : Nat) (x : AV) (y : Value), cs[k]? = some x → ds[k]? = some y → VR ι x y) :
      VR ι (.tp cs) (.tuple ds)

/-- Lists of values, cell by cell. -/
def VRs (ι : Emb) (xs : List AV) (ys : List Value) : Prop := xs.length = ys.length ∧ ∀ (k : Nat) (x : AV) (y : Value), xs[k]? = some x → ys[k]? = some y → VR ι x y

/-- The blocks that a value leads to. -/
inductive Rf (r : Nat) : AV → Prop where
  | p (o : Nat) : Rf r (.p (some (r, o)))
  | sl (o len cap : Nat) (exact : Bool) : Rf r (.sl (some (r, o)) len cap exact)
  | yl (xs ys : List AV) : Rf r (.fn (.yield r) xs ys)
  | fn1 (f : Fn) (xs ys : List AV) (x : AV) (h : x ∈ xs) (hx : Rf r x) : Rf r (.fn f xs ys)
  | fn2 (f : Fn) (xs ys : List AV) (x : AV) (h : x ∈ ys) (hx : Rf r x) : Rf r (.fn f xs ys)
  | ifc (t : TypeId) (x : AV) (hx : Rf r x) : Rf r (.ifc t x)
  | ag (cs : List AV) (x : AV) (h : x ∈ cs) (hx : Rf r x) : Rf r (.ag cs)
  | tp (cs : List AV) (x : AV) (h : x ∈ cs) (hx : Rf r x) : Rf r (.tp cs)

/-- All blocks that a value leads to are below n. -/
def Bd (n : Nat) (v : AV) : Prop := ∀ r, Rf r v → r < n

theorem Bd.mono {n m : Nat} {v : AV} (h : Bd n v) (hm : n ≤ m) : Bd m v := fun r hr => Nat.lt_of_lt_of_le (h r hr) hm

theorem VR.congr {ι κ : Emb} {v : AV} {c : Value} (h : VR ι v c) : (∀ r, Rf r v → (ι r).ok = true → κ r = ι r) → VR κ v c := by
  induction h with
  | u v => intro _; exact .u v
  | b x => intro _; exact .b x
  | i k n => intro _; exact .i k n
  | s x => intro _; exact .s x
  | pn => intro _; exact .pn
  | p a o h0 => intro h; rw [← h a (.p o) h0]; exact .p a o (by rw [h a (.p o) h0]; exact h0)
  | sn => intro _; exact .sn
  | sl a o len cap exact cap' h0 h1 h2 h3 h4 => intro h; rw [← h a (.sl o len cap exact) h0] at h4 ⊢; exact .sl a o len cap exact cap' (by rw [h a (.sl o len cap exact) h0]; exact h0) h1 h2 h3 h4
  | se a o ad cap' => intro _; exact .se a o ad cap'
  | yl a h0 => intro h; rw [← h a (.yl [] []) h0]; exact .yl a (by rw [h a (.yl [] []) h0]; exact h0)
  | fn f xs ys us vs h0 h1 h2 _ _ ih3 ih4 =>
    intro h
    exact .fn f xs ys us vs h0 h1 h2 (fun k x y hx hy => ih3 k x y hx hy fun r hr => h r (.fn1 f xs ys x (List.mem_of_getElem? hx) hr))
      (fun k x y hx hy => ih4 k x y hx hy fun r hr => h r (.fn2 f xs ys x (List.mem_of_getElem? hx) hr))
  | nf => intro _; exact .nf
  | ifc t x y _ ih => intro h; exact .ifc t x y (ih fun r hr => h r (.ifc t x hr))
  | ni => intro _; exact .ni
  | ag cs ds h1 _ ih => intro h; exact .ag cs ds h1 fun k x y hx hy => ih k x y hx hy fun r hr => h r (.ag cs x (List.mem_of_getElem? hx) hr)
  | tp cs ds h1 _ ih => intro h; exact .tp cs ds h1 fun k x y hx hy => ih k x y hx hy fun r hr => h r (.tp cs x (List.mem_of_getElem? hx) hr)

theorem VR.agree {ι κ : Emb} {n : Nat} {v : AV} {c : Value} (h : VR ι v c) (hb : Bd n v) (ha : ∀ r, r < n → (ι r).ok = true → κ r = ι r) : VR κ v c :=
  h.congr fun r hr h0 => ha r (hb r hr) h0

theorem VRs.nil (ι : Emb) : VRs ι [] [] := ⟨rfl, fun k x y h => by simp at h⟩
theorem VRs.cons {ι : Emb} {x : AV} {y : Value} {xs : List AV} {ys : List Value} (h : VR ι x y) (hs : VRs ι xs ys) : VRs ι (x :: xs) (y :: ys) := by
  refine ⟨by simp [hs.1], fun k a b ha hb => ?_⟩
  cases k with
  | zero => simp at ha hb; subst ha; subst hb; exact h
  | succ k => simp at ha hb; exact hs.2 k a b ha hb
theorem VRs.head {ι : Emb} {x : AV} {y : Value} {xs : List AV} {ys : List Value} (h : VRs ι (x :: xs) (y :: ys)) : VR ι x y := h.2 0 x y rfl rfl
theorem VRs.tail {ι : Emb} {x : AV} {y : Value} {xs : List AV} {ys : List Value} (h : VRs ι (x :: xs) (y :: ys)) : VRs ι xs ys :=
  ⟨by simpa using h.1, fun k a b ha hb => h.2 (k + 1) a b (by simpa using ha) (by simpa using hb)⟩
theorem VRs.append {ι : Emb} {xs xs' : List AV} {ys ys' : List Value} (h : VRs ι xs ys) (h' : VRs ι xs' ys') : VRs ι (xs ++ xs') (ys ++ ys') := by
  refine ⟨by simp [h.1, h'.1], fun k a b ha hb => ?_⟩
  have hl := h.1
  by_cases hk : k < xs.length
  · rw [List.getElem?_append_left hk] at ha
    rw [List.getElem?_append_left (by omega)] at hb
    exact h.2 k a b ha hb
  · rw [List.getElem?_append_right (by omega)] at ha
    rw [List.getElem?_append_right (by omega), ← hl] at hb
    exact h'.2 _ a b ha hb
theorem VRs.take {ι : Emb} {xs : List AV} {ys : List Value} (n : Nat) (h : VRs ι xs ys) : VRs ι (xs.take n) (ys.take n) := by
  refine ⟨by simp [h.1], fun k a b ha hb => ?_⟩
  rw [List.getElem?_take] at ha hb
  split at ha
  · simp_all; exact h.2 k a b ha hb
  · simp at ha
theorem VRs.drop {ι : Emb} {xs : List AV} {ys : List Value} (n : Nat) (h : VRs ι xs ys) : VRs ι (xs.drop n) (ys.drop n) := by
  refine ⟨by simp [h.1], fun k a b ha hb => ?_⟩
  rw [List.getElem?_drop] at ha hb
  exact h.2 _ a b ha hb
theorem VRs.get {ι : Emb} {xs : List AV} {ys : List Value} (h : VRs ι xs ys) {k : Nat} {x : AV} (hx : xs[k]? = some x) : ∃ y, ys[k]? = some y ∧ VR ι x y := by
  have hk : k < xs.length := by
    rcases Nat.lt_or_ge k xs.length with h1 | h1
    · exact h1
    · rw [List.getElem?_eq_none h1] at hx; cases hx
  have : k < ys.length := h.1 ▸ hk
  exact ⟨ys[k], by simp [this], h.2 k x _ hx (by simp [this])⟩
theorem VRs.ag {ι : Emb} {cs : List AV} {ds : List Value} (h : VRs ι cs ds) : VR ι (.ag cs) (.agg ds.toArray) :=
  .ag cs _ (by simp [h.1]) fun k x y hx hy => h.2 k x y hx (by simpa using hy)
theorem VRs.tp {ι : Emb} {cs : List AV} {ds : List Value} (h : VRs ι cs ds) : VR ι (.tp cs) (.tuple ds.toArray) :=
  .tp cs _ (by simp [h.1]) fun k x y hx hy => h.2 k x y hx (by simpa using hy)
theorem VRs.agree {ι κ : Emb} {n : Nat} {xs : List AV} {ys : List Value} (h : VRs ι xs ys) (hb : ∀ x ∈ xs, Bd n x) (ha : ∀ r, r < n → (ι r).ok = true → κ r = ι r) : VRs κ xs ys :=
  ⟨h.1, fun k x y hx hy => (h.2 k x y hx hy).agree (hb x (List.mem_of_getElem? hx)) ha⟩

/-- A block of the abstract memory: its cells, the type of its elements, the cells of an element, and whether it is only read. -/
structure Blk where
  cells : List AV
  el : TypeId
  es : Nat
  ro : Bool

/-- The memory as a function sees it when it begins: how many blocks, and which. -/
structure Hv where
  n : Nat
  look : Nat → Option Blk

/-- One block of the abstract memory stands for (a part of) one of the model's. -/
structure BR (ι : Emb) (n : Nat) (w : World) (i : Nat) (k : Blk) : Prop where
  ok : (ι i).ok = true
  es : (ι i).es = k.es
  bd : ∀ v ∈ k.cells, Bd n v
  at_ : ∃ c el fr, w.heap[(ι i).b]? = some (.cells c el fr) ∧ (k.ro = false → fr = (0, 0) ∧ el = k.el ∧ (ι i).sh = 0 ∧ c.size = (ι i).sz) ∧
    (ι i).sh + k.cells.length ≤ c.size ∧ ∀ j v, k.cells[j]? = some v → ∃ cv, c[(ι i).sh + j]? = some cv ∧ VR ι v cv

/-- The abstract memory stands for the model's. -/
structure HR (ι : Emb) (H : Hv) (w : World) : Prop where
  dom : ∀ i k, H.look i = some k → i < H.n
  blk : ∀ i k, H.look i = some k → BR ι H.n w i k
  inj : ∀ i j k l, H.look i = some k → H.look j = some l → k.ro = false → i ≠ j → (ι i).b ≠ (ι j).b

/-- What a piece of the program may have done to the model's memory. -/
structure Ext (ι : Emb) (H : Hv) (w : World) (κ : Emb) (K : Hv) (w' : World) : Prop where
  agree : ∀ r, r < H.n → κ r = ι r
  n : H.n ≤ K.n
  size : w.heap.size ≤ w'.heap.size
  tape : w'.tape = w.tape
  os : w'.os = w.os
  output : w'.output = w.output
  frame : ∀ b, b < w.heap.size → (∀ i k, H.look i = some k → k.ro = false → (ι i).b ≠ b) → w'.heap[b]? = w.heap[b]?
  sub : ∀ i k, K.look i = some k → w.heap.size ≤ (κ i).b ∨ ∃ j l, H.look j = some l ∧ (k.ro = false → l.ro = false) ∧ (ι j).b = (κ i).b

theorem Ext.refl (ι : Emb) (H : Hv) (w : World) : Ext ι H w ι H w :=
  ⟨fun _ _ => rfl, Nat.le_refl _, Nat.le_refl _, rfl, rfl, rfl, fun _ _ _ => rfl, fun i k h => .inr ⟨i, k, h, id, rfl⟩⟩

theorem Ext.trans {ι κ μ : Emb} {H K L : Hv} {w w' w'' : World} (h : Ext ι H w κ K w') (g : Ext κ K w' μ L w'') : Ext ι H w μ L w'' := by
  refine ⟨fun r hr => (g.agree r (Nat.lt_of_lt_of_le hr h.n)).trans (h.agree r hr), Nat.le_trans h.n g.n, Nat.le_trans h.size g.size,
    g.tape.trans h.tape, g.os.trans h.os, g.output.trans h.output, fun b hb hf => ?_, fun i k hi => ?_⟩
  · rw [g.frame b (Nat.lt_of_lt_of_le hb h.size) fun i k hi hr he => ?_, h.frame b hb hf]
    rcases h.sub i k hi with h1 | ⟨j, l, hj, hl, hjb⟩
    · omega
    · exact hf j l hj (hl hr) (hjb.trans he)
  · rcases g.sub i k hi with h1 | ⟨j, l, hj, hl, hjb⟩
    · exact .inl (Nat.le_trans h.size h1)
    · rcases h.sub j l hj with h2 | ⟨m, q, hm, hq, hmb⟩
      · exact .inl (hjb ▸ h2)
      · exact .inr ⟨m, q, hm, fun e => hq (hl e), hmb.trans hjb⟩

theorem BR.weak {ι κ : Emb} {n m : Nat} {w : World} {i : Nat} {k : Blk} (h : BR ι n w i k) (hi : κ i = ι i) (ha : ∀ r, r < n → (ι r).ok = true → κ r = ι r) (hm : n ≤ m) : BR κ m w i k := by
  obtain ⟨h0, he, hb, c, el, fr, h1, h2, h3, h4⟩ := h
  refine ⟨by rw [hi]; exact h0, by rw [hi]; exact he, fun v hv => (hb v hv).mono hm, c, el, fr, by rw [hi]; exact h1, by rw [hi]; exact h2, by rw [hi]; exact h3, fun j v hj => ?_⟩
  obtain ⟨cv, hc, hv⟩ := h4 j v hj
  exact ⟨cv, by rw [hi]; exact hc, hv.agree (hb v (List.mem_of_getElem? hj)) ha⟩

theorem BR.world {ι : Emb} {n : Nat} {w w' : World} {i : Nat} {k : Blk} (h : BR ι n w i k) (hw : w'.heap[(ι i).b]? = w.heap[(ι i).b]?) : BR ι n w' i k := by
  obtain ⟨h0, he, hb, c, el, fr, h1, h2⟩ := h
  exact ⟨h0, he, hb, c, el, fr, hw.trans h1, h2⟩

/-- Whoever knows less of the memory knows it still. -/
theorem HR.less {ι : Emb} {H K : Hv} {w : World} (h : HR ι H w) (hn : K.n = H.n) (hl : ∀ i k, K.look i = some k → H.look i = some k) : HR ι K w :=
  ⟨fun i k hi => hn ▸ h.dom i k (hl i k hi), fun i k hi => hn ▸ h.blk i k (hl i k hi), fun i j k l hi hj => h.inj i j k l (hl i k hi) (hl j l hj)⟩

theorem BR.lt {ι : Emb} {n : Nat} {w : World} {i : Nat} {k : Blk} (h : BR ι n w i k) : (ι i).b < w.heap.size := by
  obtain ⟨_, _, _, c, el, fr, h1, _⟩ := h
  rcases Nat.lt_or_ge (ι i).b w.heap.size with h2 | h2
  · exact h2
  · rw [Array.getElem?_eq_none h2] at h1; cases h1

end Go.Em
