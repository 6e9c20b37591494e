/- The abstract machine: functions: their results, what a caller gets to know, the table. -/
import Derived.Test.YtokhjbkkpbceeaaGreatDoorEy
namespace Go.Em
open Go
set_option linter.unusedSimpArgs false
set_option linter.unusedVariables false

/-! ### References and their renaming -/

def fnRefs : Fn → List Nat
  | .yield a => [a]
  | _ => []
def fnRen (f : Nat → Nat) : Fn → Fn
  | .yield a => .yield (f a)
  | g => g
theorem fnRen_tame {f : Nat → Nat} {g : Fn} (h : tame g = true) : fnRen f g = g := by cases g <;> simp [tame] at h <;> rfl
theorem fnRefs_ren (f : Nat → Nat) (g : Fn) : fnRefs (fnRen f g) = (fnRefs g).map f := by cases g <;> rfl

mutual
def AV.refs : AV → List Nat
  | .p (some (a, _)) => [a]
  | .sl (some (a, _)) _ _ _ => [a]
  | .fn f xs ys => fnRefs f ++ (AV.refsL xs ++ AV.refsL ys)
  | .ifc _ v => v.refs
  | .ag cs => AV.refsL cs
  | .tp cs => AV.refsL cs
  | _ => []
def AV.refsL : List AV → List Nat
  | [] => []
  | x :: xs => x.refs ++ AV.refsL xs
end
theorem mem_refsL {r : Nat} : ∀ {xs : List AV}, r ∈ AV.refsL xs ↔ ∃ x ∈ xs, r ∈ x.refs
  | [] => by simp [AV.refsL]
  | x :: xs => by simp [AV.refsL, mem_refsL (xs := xs)]
theorem Rf.refs {r : Nat} {v : AV} (h : Rf r v) : r ∈ v.refs := by
  induction h with
  | p o => simp [AV.refs]
  | sl o len cap exact => simp [AV.refs]
  | yl xs ys => simp [AV.refs, fnRefs]
  | fn1 f xs ys x h hx ih => simp only [AV.refs, List.mem_append]; exact .inr (.inl (mem_refsL.2 ⟨x, h, ih⟩))
  | fn2 f xs ys x h hx ih => simp only [AV.refs, List.mem_append]; exact .inr (.inr (mem_refsL.2 ⟨x, h, ih⟩))
  | ifc t x hx ih => simp only [AV.refs]; exact ih
  | ag cs x h hx ih => simp only [AV.refs]; exact mem_refsL.2 ⟨x, h, ih⟩
  | tp cs x h hx ih => simp only [AV.refs]; exact mem_refsL.2 ⟨x, h, ih⟩

mutual
def AV.ren (f : Nat → Nat) : AV → AV
  | .p (some (a, o)) => .p (some (f a, o))
  | .sl (some (a, o)) l c e => .sl (some (f a, o)) l c e
  | .fn g xs ys => .fn (fnRen f g) (AV.renL f xs) (AV.renL f ys)
  | .ifc t v => .ifc t (v.ren f)
  | .ag cs => .ag (AV.renL f cs)
  | .tp cs => .tp (AV.renL f cs)
  | v => v
def AV.renL (f : Nat → Nat) : List AV → List AV
  | [] => []
  | x :: xs => x.ren f :: AV.renL f xs
end
theorem renL_map (f : Nat → Nat) : ∀ xs : List AV, AV.renL f xs = xs.map (·.ren f)
  | [] => rfl
  | x :: xs => by simp [AV.renL, renL_map f xs]
theorem renL_get {f : Nat → Nat} {xs : List AV} {k : Nat} {x : AV} (h : (AV.renL f xs)[k]? = some x) : ∃ y, xs[k]? = some y ∧ x = y.ren f := by
  rw [renL_map, List.getElem?_map] at h
  cases hx : xs[k]? with
  | none => simp [hx] at h
  | some y => simp [hx] at h; exact ⟨y, rfl, h.symm⟩

theorem VR.ren {κ κ' : Emb} {f : Nat → Nat} {v : AV} {c : Value} (h : VR κ v c) : (∀ r, Rf r v → (κ r).ok = true → κ' (f r) = κ r) → VR κ' (v.ren f) c := by
  induction h with
  | u v => intro _; exact .u v
  | b x => intro _; exact .b x
  | i k n => intro _; exact .i k n
  | s x => intro _; exact .s x
  | pn => intro _; exact .pn
  | p a o h0 =>
    intro h
    have e := h a (.p o) h0
    have := VR.p (ι := κ') (f a) o (by rw [e]; exact h0)
    rw [e] at this
    exact this
  | sn => intro _; exact .sn
  | sl a o len cap exact cap' h0 h1 h2 h3 h4 =>
    intro h
    have e := h a (.sl o len cap exact) h0
    have := VR.sl (ι := κ') (f a) o len cap exact cap' (by rw [e]; exact h0) h1 h2 h3 (by rw [e]; exact h4)
    rw [e] at this
    exact this
  | se a o ad cap' => intro _; exact .se (f a) o ad cap'
  | yl a h0 =>
    intro h
    have e := h a (.yl [] []) h0
    have := VR.yl (ι := κ') (f a) (by rw [e]; exact h0)
    rw [e] at this
    exact this
  | fn g xs ys us vs h0 h1 h2 _ _ ih3 ih4 =>
    intro h
    simp only [AV.ren, fnRen_tame h0]
    refine .fn g _ _ us vs h0 (by rw [renL_map]; simpa using h1) (by rw [renL_map]; simpa using h2) (fun k x y hx hy => ?_) (fun k x y hx hy => ?_)
    · obtain ⟨z, hz, rfl⟩ := renL_get hx
      exact ih3 k z y hz hy fun r hr => h r (.fn1 g xs ys z (List.mem_of_getElem? hz) hr)
    · obtain ⟨z, hz, rfl⟩ := renL_get hx
      exact ih4 k z y hz hy fun r hr => h r (.fn2 g xs ys z (List.mem_of_getElem? hz) hr)
  | nf => intro _; exact .nf
  | ifc t x y _ ih => intro h; exact .ifc t _ y (ih fun r hr => h r (.ifc t x hr))
  | ni => intro _; exact .ni
  | ag cs ds h1 _ ih =>
    intro h
    refine .ag _ ds (by rw [renL_map]; simpa using h1) fun k x y hx hy => ?_
    obtain ⟨z, hz, rfl⟩ := renL_get hx
    exact ih k z y hz hy fun r hr => h r (.ag cs z (List.mem_of_getElem? hz) hr)
  | tp cs ds h1 _ ih =>
    intro h
    refine .tp _ ds (by rw [renL_map]; simpa using h1) fun k x y hx hy => ?_
    obtain ⟨z, hz, rfl⟩ := renL_get hx
    exact ih k z y hz hy fun r hr => h r (.tp cs z (List.mem_of_getElem? hz) hr)

mutual
theorem refs_ren (f : Nat → Nat) : ∀ v : AV, (v.ren f).refs = v.refs.map f
  | .u => rfl
  | .b _ => rfl
  | .i _ _ => rfl
  | .s _ => rfl
  | .p none => rfl
  | .p (some (_, _)) => rfl
  | .sl none _ _ _ => rfl
  | .sl (some (_, _)) _ _ _ => rfl
  | .fn g xs ys => by simp [AV.ren, AV.refs, refsL_ren f xs, refsL_ren f ys, fnRefs_ren]
  | .nf => rfl
  | .ifc t v => by simpa [AV.ren, AV.refs] using refs_ren f v
  | .ni => rfl
  | .ag cs => by simpa [AV.ren, AV.refs] using refsL_ren f cs
  | .tp cs => by simpa [AV.ren, AV.refs] using refsL_ren f cs
theorem refsL_ren (f : Nat → Nat) : ∀ cs : List AV, AV.refsL (AV.renL f cs) = (AV.refsL cs).map f
  | [] => rfl
  | x :: xs => by simp [AV.renL, AV.refsL, refs_ren f x, refsL_ren f xs]
end

mutual
theorem refs_Rf {r : Nat} : ∀ (v : AV), r ∈ v.refs → Rf r v
  | .u, h => by simp [AV.refs] at h
  | .b _, h => by simp [AV.refs] at h
  | .i _ _, h => by simp [AV.refs] at h
  | .s _, h => by simp [AV.refs] at h
  | .p none, h => by simp [AV.refs] at h
  | .p (some (a, o)), h => by simp [AV.refs] at h; subst h; exact .p o
  | .sl none _ _ _, h => by simp [AV.refs] at h
  | .sl (some (a, o)) l c e, h => by simp [AV.refs] at h; subst h; exact .sl o l c e
  | .fn g xs ys, h => by
    simp only [AV.refs, List.mem_append] at h
    rcases h with h | h | h
    · cases g <;> simp [fnRefs] at h; subst h; exact .yl xs ys
    · obtain ⟨x, hx, hr⟩ := refsL_Rf xs h; exact .fn1 g xs ys x hx hr
    · obtain ⟨x, hx, hr⟩ := refsL_Rf ys h; exact .fn2 g xs ys x hx hr
  | .nf, h => by simp [AV.refs] at h
  | .ifc t v, h => .ifc t v (refs_Rf v (by simpa [AV.refs] using h))
  | .ni, h => by simp [AV.refs] at h
  | .ag cs, h => by
    obtain ⟨x, hx, hr⟩ := refsL_Rf cs (by simpa [AV.refs] using h)
    exact .ag cs x hx hr
  | .tp cs, h => by
    obtain ⟨x, hx, hr⟩ := refsL_Rf cs (by simpa [AV.refs] using h)
    exact .tp cs x hx hr
theorem refsL_Rf {r : Nat} : ∀ (xs : List AV), r ∈ AV.refsL xs → ∃ x ∈ xs, Rf r x
  | [], h => by simp [AV.refsL] at h
  | x :: xs, h => by
    simp only [AV.refsL, List.mem_append] at h
    rcases h with h | h
    · exact ⟨x, by simp, refs_Rf x h⟩
    · obtain ⟨y, hy, hr⟩ := refsL_Rf xs h
      exact ⟨y, by simp [hy], hr⟩
end

def Blk.ren (f : Nat → Nat) (b : Blk) : Blk := { b with cells := AV.renL f b.cells }

/-- All references lie below n or in the list. -/
def okR (n : Nat) (kept : List Nat) : List Nat → Bool
  | [] => true
  | r :: rs => (Nat.blt r n || memb r kept) && okR n kept rs
theorem okR_spec {n : Nat} {kept : List Nat} : ∀ {l : List Nat}, okR n kept l = true → ∀ r ∈ l, r < n ∨ r ∈ kept
  | [], _, r, h => by cases h
  | a :: l, hc, r, h => by
    simp only [okR, Bool.and_eq_true, Bool.or_eq_true, Nat.blt_eq, memb_spec] at hc
    rcases List.mem_cons.1 h with rfl | h
    · exact hc.1
    · exact okR_spec hc.2 r h

/-- The place of a block in the list. -/
def posIn (r : Nat) : List Nat → Nat
  | [] => 0
  | x :: xs => bif Nat.beq r x then 0 else posIn r xs + 1
theorem posIn_spec {r : Nat} : ∀ {l : List Nat}, r ∈ l → l[posIn r l]? = some r
  | x :: xs, h => by
    by_cases e : r = x
    · subst e; simp [posIn]
    · simp only [posIn, beqF e, cond_false, List.getElem?_cons_succ]
      exact posIn_spec ((List.mem_cons.1 h).resolve_left e)

def renOf (n : Nat) (kept : List Nat) (r : Nat) : Nat := bif Nat.blt r n then r else n + posIn r kept

def keptOk (m : Mem) (kept : List Nat) (v : AV) : Bool :=
  okR m.n kept v.refs && keptsOk kept && updsOk m.upd
where
  keptsOk : List Nat → Bool
    | [] => true
    | r :: rs => Nat.ble m.n r && !memb r rs && (match m.look r with | some b => okR m.n kept (AV.refsL b.cells) | none => true) && keptsOk rs
  updsOk : List (Nat × Option Blk) → Bool
    | [] => true
    | (_, some b) :: r => okR m.n kept (AV.refsL b.cells) && updsOk r
    | (_, none) :: r => updsOk r

def mkCR (m : Mem) (kept : List Nat) (v : AV) : CR :=
  match kept, m.upd with
  | [], [] => ⟨v, [], []⟩
  | _, _ => ⟨v.ren (renOf m.n kept), m.upd.map fun q => (q.1, q.2.map (Blk.ren (renOf m.n kept))), kept.map fun r => (m.look r).map (Blk.ren (renOf m.n kept))⟩

/-- The blocks that are led to, in the order in which they are found. -/
def closure (m : Mem) : Nat → List Nat → List Nat → Option (List Nat)
  | _, [], kept => some kept
  | 0, _ :: _, _ => none
  | k + 1, r :: todo, kept => bif Nat.blt r m.n || memb r kept then closure m k todo kept
    else closure m k ((match m.look r with | some b => AV.refsL b.cells | none => []) ++ todo) (kept ++ [r])

def updRefs : List (Nat × Option Blk) → List Nat
  | [] => []
  | (_, some b) :: r => AV.refsL b.cells ++ updRefs r
  | (_, none) :: r => updRefs r

def leave (m : Mem) (v : AV) : Option CR :=
  match closure m 100000 (v.refs ++ updRefs m.upd) [] with
  | some kept => bif keptOk m kept v then some (mkCR m kept v) else none
  | none => none

mutual
theorem ren_id {f : Nat → Nat} : ∀ (v : AV), (∀ r, Rf r v → f r = r) → v.ren f = v
  | .u, _ => rfl
  | .b _, _ => rfl
  | .i _ _, _ => rfl
  | .s _, _ => rfl
  | .p none, _ => rfl
  | .p (some (a, o)), h => by simp [AV.ren, h a (.p o)]
  | .sl none _ _ _, _ => rfl
  | .sl (some (a, o)) l c e, h => by simp [AV.ren, h a (.sl o l c e)]
  | .fn g xs ys, h => by
    have hg : fnRen f g = g := by cases g <;> first | rfl | (simp only [fnRen]; rw [h _ (.yl xs ys)])
    simp [AV.ren, hg, renL_id xs (fun x hx r hr => h r (.fn1 g xs ys x hx hr)), renL_id ys (fun x hx r hr => h r (.fn2 g xs ys x hx hr))]
  | .nf, _ => rfl
  | .ifc t v, h => by simp [AV.ren, ren_id v (fun r hr => h r (.ifc t v hr))]
  | .ni, _ => rfl
  | .ag cs, h => by simp [AV.ren, renL_id cs (fun x hx r hr => h r (.ag cs x hx hr))]
  | .tp cs, h => by simp [AV.ren, renL_id cs (fun x hx r hr => h r (.tp cs x hx hr))]
theorem renL_id {f : Nat → Nat} : ∀ (cs : List AV), (∀ x ∈ cs, ∀ r, Rf r x → f r = r) → AV.renL f cs = cs
  | [], _ => rfl
  | x :: xs, h => by simp [AV.renL, ren_id x (h x (by simp)), renL_id xs (fun y hy => h y (by simp [hy]))]
end

theorem mkCR_eq (m : Mem) (kept : List Nat) (v : AV) (h : keptOk m kept v = true) : mkCR m kept v =
    ⟨v.ren (renOf m.n kept), m.upd.map fun q => (q.1, q.2.map (Blk.ren (renOf m.n kept))), kept.map fun r => (m.look r).map (Blk.ren (renOf m.n kept))⟩ := by
  unfold mkCR
  split
  · rename_i hu
    simp only [keptOk, Bool.and_eq_true] at h
    have := okR_spec h.1.1
    rw [hu]
    rw [ren_id]
    · rfl
    · intro r hr
      rcases this r hr.refs with h1 | h1
      · have hb : Nat.blt r m.n = true := by simpa [Nat.blt_eq] using h1
        simp [renOf, hb]
      · cases h1
  · rfl

theorem keptsOk_spec {m : Mem} {kept : List Nat} : ∀ {l : List Nat}, keptOk.keptsOk m kept l = true → (∀ r ∈ l, m.n ≤ r ∧ ∀ b, m.look r = some b → ∀ q ∈ AV.refsL b.cells, q < m.n ∨ q ∈ kept) ∧ l.Nodup
  | [], _ => ⟨fun r h => (by cases h), List.nodup_nil⟩
  | x :: l, hc => by
    simp only [keptOk.keptsOk, Bool.and_eq_true, Bool.not_eq_true'] at hc
    obtain ⟨⟨⟨h1, h2⟩, h3⟩, h4⟩ := hc
    have ih := keptsOk_spec h4
    refine ⟨fun r hr => ?_, ?_⟩
    · rcases List.mem_cons.1 hr with rfl | hr
      · refine ⟨Nat.le_of_ble_eq_true h1, fun b hb => ?_⟩
        rw [hb] at h3
        exact okR_spec h3
      · exact ih.1 r hr
    · refine List.nodup_cons.2 ⟨fun h => ?_, ih.2⟩
      rw [memb_spec.2 h] at h2; cases h2
theorem updsOk_spec {m : Mem} {kept : List Nat} : ∀ {l : List (Nat × Option Blk)}, keptOk.updsOk m kept l = true → ∀ i b, lookU l i = some (some b) → ∀ q ∈ AV.refsL b.cells, q < m.n ∨ q ∈ kept
  | [], _, i, b, h => by simp [lookU] at h
  | (j, some c) :: l, hc, i, b, h => by
    simp only [keptOk.updsOk, Bool.and_eq_true] at hc
    simp only [lookU] at h
    by_cases e : j = i
    · simp [e] at h; subst h; exact okR_spec hc.1
    · simp only [beqF e, cond_false] at h; exact updsOk_spec hc.2 i b h
  | (j, none) :: l, hc, i, b, h => by
    simp only [keptOk.updsOk] at hc
    simp only [lookU] at h
    by_cases e : j = i
    · simp [e] at h
    · simp only [beqF e, cond_false] at h; exact updsOk_spec hc i b h
theorem lookU_map {f : Option Blk → Option Blk} : ∀ (l : List (Nat × Option Blk)) (i : Nat), lookU (l.map fun q => (q.1, f q.2)) i = (lookU l i).map f
  | [], i => rfl
  | (j, b) :: l, i => by
    simp only [List.map_cons, lookU]
    by_cases e : j = i
    · simp [e]
    · simp only [beqF e, cond_false]; exact lookU_map l i

/-- What the caller gets to know. -/
theorem leave_sound {ι κ : Emb} {H : Hv} {w w' : World} {m : Mem} {v : AV} {cv : Value} {kept : List Nat} (hn : m.n = H.n) (ho : m.old = H.look) (hH : HR ι H w) (hm : HR κ m.hv w') (he : Ext ι H w κ m.hv w') (hv : VR κ v cv) (hk : keptOk m kept v = true) :
    CallPost ι H w (mkCR m kept v) cv w' := by
  rw [mkCR_eq m kept v hk]
  simp only [keptOk, Bool.and_eq_true] at hk
  obtain ⟨⟨k1, k2⟩, k3⟩ := hk
  have k1 := okR_spec k1
  obtain ⟨k2, knd⟩ := keptsOk_spec k2
  have k3 := updsOk_spec k3
  let f := renOf m.n kept
  let κ' : Emb := fun r => if r < m.n then κ r else match kept[r - m.n]? with | some q => κ q | none => ⟨0, 0, 0, 0, false⟩
  let g : Nat → Nat := fun i => if i < m.n then i else (kept[i - m.n]?).getD 0
  have hf1 : ∀ r, r < m.n → f r = r := fun r hr => by
    have hb : Nat.blt r m.n = true := by simpa [Nat.blt_eq] using hr
    simp [f, renOf, hb]
  have hf2 : ∀ r, r ∈ kept → f r = m.n + posIn r kept ∧ kept[posIn r kept]? = some r := fun r hr => by
    have hb : Nat.blt r m.n = false := by rw [← Bool.not_eq_true, Nat.blt_eq]; have := (k2 r hr).1; omega
    exact ⟨by simp [f, renOf, hb], posIn_spec hr⟩
  have hκ1 : ∀ r, r < m.n → κ' r = κ r := fun r hr => by simp [κ', hr]
  have hκf : ∀ r, (r < m.n ∨ r ∈ kept) → κ' (f r) = κ r := fun r hr => by
    rcases hr with h | h
    · rw [hf1 r h, hκ1 r h]
    · obtain ⟨h1, h2⟩ := hf2 r h
      have e : ¬ m.n + posIn r kept < m.n := by omega
      rw [h1]
      simp only [κ', if_neg e, Nat.add_sub_cancel_left, h2]
  have hfb : ∀ r, (r < m.n ∨ r ∈ kept) → f r < m.n + kept.length := fun r hr => by
    rcases hr with h | h
    · rw [hf1 r h]; omega
    · obtain ⟨h1, h2⟩ := hf2 r h
      have := (List.getElem?_eq_some_iff.1 h2).1
      omega
  have hval : ∀ (x : AV) (y : Value), (∀ r ∈ x.refs, r < m.n ∨ r ∈ kept) → VR κ x y → VR κ' (x.ren f) y := fun x y hx h => h.ren fun r hr _ => hκf r (hx r hr.refs)
  have hbd : ∀ x : AV, (∀ r ∈ x.refs, r < m.n ∨ r ∈ kept) → Bd (m.n + kept.length) (x.ren f) := fun x hx r hr => by
    have := hr.refs
    rw [refs_ren] at this
    obtain ⟨q, hq, rfl⟩ := List.mem_map.1 this
    exact hfb q (hx q hq)
  -- what the caller finds
  let c : CR := ⟨v.ren f, m.upd.map fun q => (q.1, q.2.map (Blk.ren f)), kept.map fun r => (m.look r).map (Blk.ren f)⟩
  have hlook : ∀ i k, (H.after c).look i = some k → ∃ k0, m.look (g i) = some k0 ∧ i < m.n + kept.length ∧ κ' i = κ (g i) ∧ k.ro = k0.ro ∧ k.el = k0.el ∧ k.es = k0.es ∧
      ((k = k0 ∧ (∀ x ∈ k.cells, Bd m.n x)) ∨ (k = k0.ren f ∧ ∀ q ∈ AV.refsL k0.cells, q < m.n ∨ q ∈ kept)) ∧ (m.n ≤ i → kept[i - m.n]? = some (g i)) := by
    intro i k hi
    unfold Hv.after at hi
    by_cases hin : i < m.n
    · have hb : Nat.blt i H.n = true := by simpa [Nat.blt_eq, hn] using hin
      have hbm : Nat.blt i m.n = true := by simpa [Nat.blt_eq] using hin
      simp only [hb, cond_true] at hi
      have hg : g i = i := by simp [g, hin]
      have hlu := lookU_map (f := Option.map (Blk.ren f)) m.upd i
      have hc : c.upd = m.upd.map fun q => (q.1, q.2.map (Blk.ren f)) := rfl
      rw [hc, hlu] at hi
      have hml : m.look i = (match lookU m.upd i with | some b => b | none => m.old i) := by
        unfold Mem.look
        rw [hbm]
        rfl
      rw [hg]
      cases hl : lookU m.upd i with
      | none =>
        rw [hl] at hi hml
        simp only [Option.map_none] at hi
        simp only [ho] at hml
        refine ⟨k, by rw [hml]; exact hi, by omega, hκ1 i hin, rfl, rfl, rfl, .inl ⟨rfl, fun x hx => ?_⟩, fun h => by omega⟩
        have := (hH.blk i k hi).bd x hx
        rw [hn]; exact this
      | some ob =>
        rw [hl] at hi hml
        simp only [Option.map_some] at hi
        simp only at hml
        cases ob with
        | none => simp at hi
        | some b =>
          simp only [Option.map_some, Option.some.injEq] at hi
          subst hi
          exact ⟨b, hml, by omega, hκ1 i hin, rfl, rfl, rfl, .inr ⟨rfl, k3 i b hl⟩, fun h => by omega⟩
    · have hb : Nat.blt i H.n = false := by rw [← Bool.not_eq_true, Nat.blt_eq, ← hn]; exact hin
      simp only [hb, cond_false] at hi
      have hc : c.new = kept.map fun r => (m.look r).map (Blk.ren f) := rfl
      rw [hc, List.getElem?_map, ← hn] at hi
      cases hq : kept[i - m.n]? with
      | none => simp [hq] at hi
      | some q =>
        simp only [hq, Option.map_some] at hi
        have hg : g i = q := by simp [g, hin, hq]
        rw [hg]
        have hqk : q ∈ kept := List.mem_of_getElem? hq
        have hlen := (List.getElem?_eq_some_iff.1 hq).1
        cases hl : m.look q with
        | none => simp [hl] at hi
        | some b =>
          simp only [hl, Option.map_some, Option.some.injEq] at hi
          subst hi
          refine ⟨b, rfl, by omega, by simp [κ', hin, hq], rfl, rfl, rfl, .inr ⟨rfl, (k2 q hqk).2 b hl⟩, fun _ => rfl⟩
  have htop : (H.after c).n = m.n + kept.length := by simp [Hv.after, c, hn]
  refine ⟨κ', ⟨fun r hr => ?_, by rw [htop, hn]; omega, he.size, he.tape, he.os, he.output, he.frame, fun i k hi => ?_⟩, ⟨fun i k hi => ?_, fun i k hi => ?_, fun i j k l hi hj hro hne => ?_⟩, hval v cv k1 hv, ?_⟩
  · rw [hκ1 r (by rw [hn]; exact hr)]
    exact he.agree r hr
  · obtain ⟨k0, h1, h2, h3, h4, _⟩ := hlook i k hi
    rw [h3, h4]
    exact he.sub (g i) k0 h1
  · obtain ⟨k0, h1, h2, _⟩ := hlook i k hi
    rw [htop]; exact h2
  · obtain ⟨k0, h1, h2, h3, h4, h5, h6, h7, _⟩ := hlook i k hi
    obtain ⟨b0, b1, b2, cc, el, fr, b3, b4, b5, b6⟩ := hm.blk (g i) k0 h1
    rcases h7 with ⟨rfl, hbd'⟩ | ⟨rfl, hq⟩
    · refine ⟨by rw [h3]; exact b0, by rw [h3]; exact b1, fun x hx => (hbd' x hx).mono (by rw [htop]; omega), cc, el, fr, by rw [h3]; exact b3, by rw [h3]; exact b4, by rw [h3]; exact b5, fun j x hj => ?_⟩
      obtain ⟨y, hy, hxy⟩ := b6 j x hj
      exact ⟨y, by rw [h3]; exact hy, hxy.agree (hbd' x (List.mem_of_getElem? hj)) fun r hr _ => hκ1 r hr⟩
    · refine ⟨by rw [h3]; exact b0, by rw [h3]; exact b1, fun x hx => ?_, cc, el, fr, by rw [h3]; exact b3, by rw [h3]; exact b4, by rw [h3, Blk.ren, renL_map, List.length_map]; exact b5, fun j x hj => ?_⟩
      · rw [Blk.ren, renL_map] at hx
        obtain ⟨y, hy, rfl⟩ := List.mem_map.1 hx
        rw [htop]
        exact hbd y fun r hr => hq r (mem_refsL.2 ⟨y, hy, hr⟩)
      · obtain ⟨z, hz, rfl⟩ := renL_get hj
        obtain ⟨y, hy, hxy⟩ := b6 j z hz
        exact ⟨y, by rw [h3]; exact hy, hval z y (fun r hr => hq r (mem_refsL.2 ⟨z, List.mem_of_getElem? hz, hr⟩)) hxy⟩
  · obtain ⟨k0, h1, h2, h3, h4, _, _, _, h8⟩ := hlook i k hi
    obtain ⟨l0, g1, g2, g3, g4, _, _, _, g8⟩ := hlook j l hj
    rw [h3, g3]
    refine hm.inj (g i) (g j) k0 l0 h1 g1 (h4 ▸ hro) fun e => hne ?_
    by_cases hi' : i < m.n
    · have e1 : g i = i := by simp [g, hi']
      by_cases hj' : j < m.n
      · have e2 : g j = j := by simp [g, hj']
        omega
      · have := (k2 _ (List.mem_of_getElem? (g8 (by omega)))).1
        omega
    · have hik := h8 (by omega)
      by_cases hj' : j < m.n
      · have e2 : g j = j := by simp [g, hj']
        have := (k2 _ (List.mem_of_getElem? hik)).1
        omega
      · have hjk := g8 (by omega)
        rw [← e] at hjk
        have p1 := (List.getElem?_eq_some_iff.1 hik).1
        have := (List.getElem?_inj p1 knd).1 (hik.trans hjk.symm)
        omega
  · have := hbd v k1
    rw [hn] at this
    show Bd (H.n + (kept.map _).length) _
    rw [List.length_map]
    exact this

end Go.Em
