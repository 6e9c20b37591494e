/- The abstract machine: a range over a function. -/
import Derived.Test.YtokhjbkkpbceeaaGreatDoorEt
import Derived.RangeFuncLeaves
import Derived.RangeFuncOwn
namespace Go.Em
open Go
set_option linter.unusedSimpArgs false
set_option linter.unusedVariables false

/-! ### Turning a block that holds no cells -/

section
variable {ι κ : Emb} {H K : Hv} {w w' : World} {l : Nat} {o o' : Obj}

theorem HR.keep (hH : HR ι H w) (he : Ext ι H w κ K w') (hl : w.heap[l]? = some o) (ho : o.isCells = false) : w'.heap[l]? = some o := by
  have hlt := (Array.getElem?_eq_some_iff.1 hl).1
  rw [he.frame l hlt fun i k hi hk hb => ?_]
  · exact hl
  · obtain ⟨_, _, _, c, el, fr, h1, _⟩ := hH.blk i k hi
    rw [hb, hl] at h1
    cases h1
    cases ho
theorem HR.putObj (hH : HR ι H w) (hl : w.heap[l]? = some o) (ho : o.isCells = false) : HR ι H (w.putObj l o') :=
  ⟨hH.dom, fun i k hi => (hH.blk i k hi).world (by
    obtain ⟨_, _, _, c, el, fr, h1, _⟩ := hH.blk i k hi
    refine World.putObj_heap_other fun e => ?_
    rw [e, hl] at h1
    cases h1
    cases ho), hH.inj⟩
theorem size_putObj (w : World) (l : Nat) (o : Obj) : (w.putObj l o).heap.size = w.heap.size := by simp [World.putObj]
theorem Ext.putObj (he : Ext ι H w κ K w') (o : Obj) : Ext ι H (w.putObj l o) κ K (w'.putObj l o) := by
  have hs := he.size
  refine ⟨he.agree, he.n, by simpa [size_putObj] using hs, he.tape, he.os, he.output, fun b hb hf => ?_, fun i k hi => ?_⟩
  · rw [size_putObj] at hb
    by_cases e : b = l
    · subst e
      rw [World.putObj_heap_same (by omega), World.putObj_heap_same hb]
    · rw [World.putObj_heap_other e, World.putObj_heap_other e]
      exact he.frame b hb hf
  · rw [size_putObj]
    exact he.sub i k hi
theorem Ext.putNew (he : Ext ι H w κ K w') (hl : w.heap.size ≤ l) (o : Obj) : Ext ι H w κ K (w'.putObj l o) :=
  ⟨he.agree, he.n, by rw [size_putObj]; exact he.size, he.tape, he.os, he.output, fun b hb hf => by rw [World.putObj_heap_other (by omega)]; exact he.frame b hb hf, he.sub⟩
theorem putObj_self (hl : w.heap[l]? = some o) : w.putObj l o = w := by
  obtain ⟨h1, h2⟩ := Array.getElem?_eq_some_iff.1 hl
  unfold World.putObj
  have : w.heap.setIfInBounds l o = w.heap := by
    apply Array.ext (by simp)
    intro i hi1 hi2
    by_cases e : l = i
    · subst e; simp [h2]
    · rw [Array.getElem_setIfInBounds_ne hi2 e]
  rw [this]
theorem putObj_twice (w : World) (l : Nat) (o o' : Obj) : (w.putObj l o).putObj l o' = w.putObj l o' := by
  unfold World.putObj
  simp

theorem Mk.trans {w2 : World} {a a1 a2 : Act} (h : Mk w a a1 w') (hH : HR ι H w') (he : Ext ι H w' κ K w2) (hs : w.heap.size ≤ w'.heap.size) (k : Mk w' a1 a2 w2) : Mk w a a2 w2 := by
  obtain ⟨ms, h1, h2, h3⟩ := h
  obtain ⟨ns, k1, k2, k3⟩ := k
  refine ⟨ns ++ ms, by rw [k1, h1]; simp, List.nodup_append.2 ⟨k2, h2, fun x hx y hy e => ?_⟩, fun D hD => ?_⟩
  · have q1 := (k3 x hx).1
    have q2 := (Array.getElem?_eq_some_iff.1 (h3 y hy).2).1
    omega
  · rcases List.mem_append.1 hD with hD | hD
    · exact ⟨by have := (k3 D hD).1; omega, (k3 D hD).2⟩
    · exact ⟨(h3 D hD).1, hH.keep he (h3 D hD).2 rfl⟩
end

/-! ### Memory at the beginning of a call, and behind it -/

theorem fresh_hv {H : Hv} (hdom : ∀ i k, H.look i = some k → i < H.n) : (⟨H.n, H.look, [], []⟩ : Mem).hv = H := by
  obtain ⟨n, lk⟩ := H
  unfold Mem.hv
  congr 1
  funext x
  unfold Mem.look
  by_cases hx : x < n
  · have hb : Nat.blt x n = true := by simpa [Nat.blt_eq] using hx
    simp [hb, lookU]
  · have hb : Nat.blt x n = false := by rw [← Bool.not_eq_true, Nat.blt_eq]; exact hx
    simp only [hb, cond_false]
    cases hl : lk x with
    | none => simp
    | some q => exact absurd (hdom x q hl) hx
theorem after_hv {H : Hv} {m : Mem} {v : AV} (hn : m.n = H.n) (ho : m.old = H.look) : H.after ⟨v, m.upd, m.ext⟩ = m.hv := by
  obtain ⟨n, lk⟩ := H
  obtain ⟨n', old, upd, ext⟩ := m
  simp only at hn ho
  subst hn ho
  rfl

theorem setPs_sound {ι : Emb} {n : Nat} : ∀ (ps : List Nat) (xs : List AV) (cs : List Value) (T : List AV) (t : Array Value), TR ι n T t → VRs ι xs cs → (∀ x ∈ xs, Bd n x) → TR ι n (setPs T ps xs) ((ps.zip cs).foldl (fun t (p, v) => t.setIfInBounds p v) t)
  | [], xs, cs, T, t, ht, _, _ => by simpa [setPs] using ht
  | p :: ps, [], cs, T, t, ht, hv, _ => by
    have : cs = [] := by have := hv.1; simpa using this.symm
    subst this
    simpa [setPs] using ht
  | p :: ps, x :: xs, [], T, t, ht, hv, _ => by have := hv.1; simp at this
  | p :: ps, x :: xs, c :: cs, T, t, ht, hv, hb => by
    simp only [setPs, List.zip_cons_cons, List.foldl_cons]
    have := TR.put (a := { tmps := t, defers := [] }) ht hv.head (hb x (by simp)) (some p)
    exact setPs_sound ps xs cs _ _ this hv.tail fun y hy => hb y (by simp [hy])

/-- What a run in place promises. -/
structure SubOK (P : Program) (sub : Sub) : Prop where
  base : SubB sub
  run : ∀ orc' gf args m m', sub orc' gf args m = some m' → (∀ args w, (callFunc gf args).run P w = .ok (.enter gf args) w) ∧ ∀ A, AmbOK A → OrcOK P A orc' →
    ∀ (ι : Emb) (w : World) (cargs : Array Value), HR ι m.hv w → A ι m.hv w → VRs ι args cargs.toList → (∀ x ∈ args, Bd m.top x) →
      Calls P gf cargs w fun e w' => ∃ v, e = .returned v ∧ ∃ κ, HR κ m'.hv w' ∧ Ext ι m.hv w κ m'.hv w'

/-- What is known of the world while a loop over a function goes on. -/
def loopAmb (ι0 : Emb) (H0 : Hv) (w0 : World) (y l D : Nat) (o : Loop) : Amb := fun κ K W =>
  Ext ι0 H0 w0 κ K W ∧ W.heap[l]? = some (.loop o) ∧ W.heap[D]? = some (.deferred (some [])) ∧ (κ y).b = l ∧ y < K.n
theorem loopAmb_ok (ι0 : Emb) (H0 : Hv) (w0 : World) (y l D : Nat) (o : Loop) : AmbOK (loopAmb ι0 H0 w0 y l D o) where
  ext := fun ι H w κ K w' ⟨h1, h2, h3, h4, h5⟩ hH he => ⟨h1.trans he, hH.keep he h2 rfl, hH.keep he h3 rfl, by rw [he.agree y h5]; exact h4, Nat.lt_of_lt_of_le h5 he.n⟩
  less := fun κ K K' w ⟨h1, h2, h3, h4, h5⟩ hn hl => ⟨⟨h1.agree, hn ▸ h1.n, h1.size, h1.tape, h1.os, h1.output, h1.frame, fun i k hi => h1.sub i k (hl i k hi)⟩, h2, h3, h4, hn ▸ h5⟩

section
variable {P : Program} {orc : Orc} {sub : Sub}

theorem yld_sound {fa fb : St → Option (XE × St)} {c d : Code} (ha : ∀ l dp, Comes noAmb (some l) dp P c fa) (hb : ∀ l dp, Comes noAmb (some l) dp P d fb)
    (hfa : ∀ s e s', fa s = some (e, s') → Same s.m s'.m) (hfb : ∀ s e s', fb s = some (e, s') → Same s.m s'.m) {ι0 : Emb} {H0 : Hv} {w0 : World} {y l D : Nat} {o : Loop} {T0 : List AV}
    (hst : o.state = .ready) (hpe : o.pending = none) (hc : o.assign = c) (hd : o.body = d) (ht : TR ι0 H0.n T0 o.tmps) {xs : List AV} (hx : xs.length = o.params.toList.length) {H : Hv} {s1 s2 : St}
    (h1 : fa ⟨setPs T0 o.params.toList xs, ⟨H.n, H.look, [], []⟩⟩ = some (.n, s1)) (h2 : fb s1 = some (.n, s2)) : YldS P (loopAmb ι0 H0 w0 y l D o) y xs H ⟨.b true, s2.m.upd, s2.m.ext⟩ := by
  intro ι W cargs hH ⟨e1, e2, e3, e4, e5⟩ hok hv hbd
  subst e4
  have hsz : cargs.size = o.params.size := by have := hv.1; simp at this hx; omega
  refine ⟨o.fn, _, o.assign, o.body, run_yield e2 hsz, fun rr dp => roundIn_of_wpIn trivial ?_⟩
  rw [hc, hd]
  have hfr := fresh_hv hH.dom
  have hzip : (o.params.zip cargs).foldl (fun tmps (t, a) => tmps.setIfInBounds t a) o.tmps = (o.params.toList.zip cargs.toList).foldl (fun t (p, v) => t.setIfInBounds p v) o.tmps := by
    rw [← Array.foldl_toList, Array.toList_zip]
  have hSR : SR noAmb ι ⟨setPs T0 o.params.toList xs, ⟨H.n, H.look, [], []⟩⟩ { tmps := (o.params.zip cargs).foldl (fun tmps (t, a) => tmps.setIfInBounds t a) o.tmps, defers := [] } W := by
    refine ⟨?_, by rw [hfr]; exact hH, trivial⟩
    rw [hzip]
    exact setPs_sound _ _ _ _ _ (ht.agree (fun r hr _ => e1.agree r hr) e1.n) hv hbd
  refine ha (ι y).b dp ι _ s1 .n _ W hSR h1 _ fun κ1 a1 w1 g1 g2 g3 => ?_
  have l1 : w1.heap[(ι y).b]? = some (.loop o) := hSR.h.keep g2 e2 rfl
  refine ⟨_, run_beginRound l1 hst, ?_⟩
  have hlt : (ι y).b < w1.heap.size := (Array.getElem?_eq_some_iff.1 l1).1
  refine hb (ι y).b dp κ1 s1 s2 .n a1 _ ⟨g1.t, g1.h.putObj l1 rfl, trivial⟩ h2 _ fun κ2 a2 w3 k1 k2 k3 => ?_
  have l3 : w3.heap[(ι y).b]? = some (.loop { o with state := .busy }) := HR.keep (g1.h.putObj l1 rfl) k2 (World.putObj_heap_same hlt) rfl
  have horec : ({ ({ o with state := .busy } : Loop) with state := if (none : Option Code).isNone then .ready else .done, pending := none } : Loop) = o := by
    cases o
    simp only at hst hpe
    subst hst hpe
    rfl
  have hend := run_endRound (P := P) none l3
  rw [horec] at hend
  have hsame := (hfa _ _ _ h1).trans (hfb _ _ _ h2)
  refine ⟨_, _, hend, .bool true, rfl, κ2, ?_, ?_, .b true, bd_b _ true⟩
  · rw [after_hv hsame.n hsame.old]
    have k2' := k2.putObj (l := (ι y).b) (.loop o)
    rw [putObj_twice, putObj_self l1] at k2'
    rw [hfr] at g2
    exact g2.trans k2'
  · rw [after_hv hsame.n hsame.old]
    exact k1.h.putObj l3 rfl

theorem rng_sound (ho : OrcOK P noAmb orc) (hsub : SubOK P sub) {g : Opd} {gop : Operand} (h1 : opdOk g gop = true) {ps : List Nat} {qs : Array Tmp} (h2 : ps = qs.toList) {fa fb : St → Option (XE × St)} {c d : Code}
    (ha : ∀ l dp, Comes noAmb (some l) dp P c fa) (hb : ∀ l dp, Comes noAmb (some l) dp P d fb) (hfa : ∀ s e s', fa s = some (e, s') → Same s.m s'.m) (hfb : ∀ s e s', fb s = some (e, s') → Same s.m s'.m)
    {ι : Emb} {s s' : St} {a : Act} {w : World} (hs : SR noAmb ι s a w)
    (he : exR orc sub g ps (two fa fb) s = some s') {dp : Nat} {Q : Exit → Act → World → Prop}
    (hq : ∀ κ a' w', SR noAmb κ s' a' w' → Ext ι s.m.hv w κ s'.m.hv w' → Mk w a a' w' → Q .normal a' w') : (Code.rangeFunc gop qs c d).wpIn (Fz none) dp P Q a w := by
  unfold exR at he
  split at he <;> (try (cases he; done))
  rename_i gf cap hg
  split at he <;> (try (cases he; done))
  rename_i m' hrun
  simp only [Option.some.injEq] at he
  subst he
  have sx := opd_sound hs.t h1
  rw [hg] at sx
  generalize hgv : a.eval gop = gv at sx
  obtain ⟨sx, sb⟩ := sx
  cases sx
  rename_i us vs _ q1 q3 q2 q4
  have hus : us = #[] := by simpa using q1.symm
  subst hus
  refine wpIn_rangeFunc ?_
  intro fn _
  let rec0 : Loop := { state := .ready, pending := none, fn, tmps := a.tmps, params := qs, assign := c, body := d, defers := w.heap.size }
  obtain ⟨W1, hW1⟩ : ∃ W1, (w.alloc (.deferred (some []))).alloc (.loop rec0) = W1 := ⟨_, rfl⟩
  have hL1 : W1.heap[w.heap.size + 1]? = some (.loop rec0) := by
    rw [← hW1]; have := World.alloc_heap_new (w.alloc (.deferred (some []))) (.loop rec0); rwa [World.size_alloc] at this
  have hK1 : W1.heap[w.heap.size]? = some (.deferred (some [])) := by
    rw [← hW1]; exact (Go.RowKit.Below.heap_alloc _ _ _ (by simp)).trans (World.alloc_heap_new w _)
  have hold : ∀ b, b < w.heap.size → W1.heap[b]? = w.heap[b]? := fun b hb => by
    rw [← hW1]
    exact (Go.RowKit.Below.heap_alloc _ _ _ (by simp; omega)).trans (Go.RowKit.Below.heap_alloc _ _ _ hb)
  have hsz1 : W1.heap.size = w.heap.size + 2 := by rw [← hW1]; simp
  have htape : W1.tape = w.tape ∧ W1.os = w.os ∧ W1.output = w.output := by rw [← hW1]; exact ⟨rfl, rfl, rfl⟩
  -- the embedding with the record's name
  let κ0 : Emb := fun r => if r = s.m.top then ⟨w.heap.size + 1, 0, 0, 0, true⟩ else ι r
  have hκ : ∀ r, r < s.m.top → κ0 r = ι r := fun r hr => by simp [κ0]; omega
  have hκy : κ0 s.m.top = ⟨w.heap.size + 1, 0, 0, 0, true⟩ := by simp [κ0]
  have hpl : ∀ x, (s.m.push none).look x = s.m.look x := fun x => by
    rw [Mem.look_push]
    split
    · rename_i e
      cases hx : s.m.look x with
      | none => rfl
      | some k => have := s.m.look_lt hx; omega
    · rfl
  have hH1 : HR κ0 (s.m.push none).hv W1 := by
    refine ⟨fun i k hi => ?_, fun i k hi => ?_, fun i j k l' hi hj hro hne => ?_⟩
    · have hi' : s.m.look i = some k := (hpl i).symm.trans hi
      have := s.m.look_lt hi'
      show i < (s.m.push none).top
      rw [s.m.top_push]; omega
    · have hi' : s.m.look i = some k := (hpl i).symm.trans hi
      have hb := hs.h.blk i k hi'
      have hlt : i < s.m.top := s.m.look_lt hi'
      refine (hb.weak (hκ i hlt) (fun r hr _ => hκ r hr) (by show s.m.top ≤ (s.m.push none).top; rw [s.m.top_push]; omega)).world ?_
      rw [hκ i hlt]
      exact hold _ hb.lt
    · have hi' : s.m.look i = some k := (hpl i).symm.trans hi
      have hj' : s.m.look j = some l' := (hpl j).symm.trans hj
      rw [hκ i (s.m.look_lt hi'), hκ j (s.m.look_lt hj')]
      exact hs.h.inj i j k l' hi' hj' hro hne
  have hE1 : Ext ι s.m.hv w κ0 (s.m.push none).hv W1 := by
    refine ⟨fun r hr => hκ r hr, by show s.m.top ≤ (s.m.push none).top; rw [s.m.top_push]; omega, by omega, htape.1, htape.2.1, htape.2.2, fun b hb _ => hold b hb, fun i k hi => ?_⟩
    have hi' : s.m.look i = some k := (hpl i).symm.trans hi
    exact .inr ⟨i, k, hi', id, by rw [hκ i (s.m.look_lt hi')]⟩
  obtain ⟨hent, hcalls⟩ := hsub.run _ _ _ _ _ hrun
  have hord : OrcOK P (loopAmb ι s.m.hv w s.m.top (w.heap.size + 1) w.heap.size rec0) (yieldOrc orc s.m.top ps.length fun xs m =>
      match two fa fb ⟨setPs s.T ps xs, m⟩ with | some s' => some s'.m | none => none) := by
    intro f args H cr hcr
    unfold yieldOrc at hcr
    by_cases e : f = yKey
    · refine ⟨fun h => absurd e h, fun _ => ?_⟩
      simp only [e, Nat.beq_refl, cond_true] at hcr
      split at hcr <;> (try (cases hcr; done))
      rename_i a0 xs
      cases hb0 : (Nat.beq a0 s.m.top && Nat.beq xs.length ps.length) with
      | false => simp [hb0] at hcr
      | true =>
        simp only [hb0, cond_true] at hcr
        simp only [Bool.and_eq_true, Nat.beq_eq] at hb0
        obtain ⟨rfl, hxl⟩ := hb0
        refine ⟨s.m.top, xs, rfl, ?_⟩
        split at hcr <;> (try (cases hcr; done))
        rename_i mm hmm
        simp only [Option.some.injEq] at hcr
        subst hcr
        split at hmm <;> (try (cases hmm; done))
        rename_i sx hsx
        unfold two at hsx
        split at hsx <;> (try (cases hsx; done))
        rename_i s1 hs1
        split at hsx <;> (try (cases hsx; done))
        rename_i s2 hs2
        simp only [Option.some.injEq] at hsx hmm
        subst hsx hmm
        subst h2
        exact yld_sound ha hb hfa hfb (o := rec0) rfl rfl rfl rfl hs.t hxl hs1 hs2
    · simp only [beqF e, cond_false] at hcr
      exact ⟨(ho f args H cr hcr).1, fun h => absurd h e⟩
  have hyv : VR κ0 (.fn (.yield s.m.top) [] []) (.func (.yield (w.heap.size + 1)) #[] #[]) := by
    have := VR.yl (ι := κ0) s.m.top (by rw [hκy])
    rwa [hκy] at this
  have hcapv : VRs κ0 cap vs.toList := ⟨by simpa using q2, fun k x y hx hy => (q4 k x y hx (by simpa using hy)).congr fun r hr _ => hκ r (sb r (.fn2 _ _ _ x (List.mem_of_getElem? hx) hr))⟩
  refine ⟨w.heap.size + 1, [{ target := .collected w.heap.size, args := #[] }], W1, { target := .fn (.func gf) vs, args := #[.func (.yield (w.heap.size + 1)) #[] #[]] }, W1, gf,
    #[.func (.yield (w.heap.size + 1)) #[] #[]] ++ vs, W1, ?_, ?_, ?_, ?_, fun h => by simp [Fz] at h, ?_⟩
  · rw [← hW1]; exact run_enterLoop_outer _ _ _ _ _
  · simp only [resolve, hgv]
    simp [go_sem]
  · intro f' hf'; trivial
  · simp [invoke, go_sem, hent]
  · refine callsIn_Fz (Calls.mono (hcalls _ (loopAmb_ok _ _ _ _ _ _ _) hord κ0 W1 _ hH1 ⟨hE1, hL1, hK1, by rw [hκy], by show s.m.top < (s.m.push none).top; rw [s.m.top_push]; omega⟩ ?_ ?_) fun e w3 ⟨v, hev, κ, g1, g2⟩ => ?_)
    · simpa using VRs.cons hyv hcapv
    · intro x hx
      rcases List.mem_cons.1 hx with rfl | hx
      · intro r hr
        rw [s.m.top_push]
        cases hr with
        | yl => omega
        | fn1 _ _ _ x hx => cases hx
        | fn2 _ _ _ x hx => cases hx
      · intro r hr
        have := sb r (.fn2 _ _ _ x hx hr)
        rw [s.m.top_push]; omega
    · subst hev
      have l3 : w3.heap[w.heap.size + 1]? = some (.loop rec0) := hH1.keep g2 hL1 rfl
      have k3 : w3.heap[w.heap.size]? = some (.deferred (some [])) := hH1.keep g2 hK1 rfl
      refine ⟨none, _, run_endLoop l3 (by simp [rec0]), ?_⟩
      have hEx := (hE1.trans g2).putNew (l := w.heap.size + 1) (by omega) (.loop { rec0 with state := .exhausted })
      refine hq κ _ _ ⟨?_, g1.putObj l3 rfl, trivial⟩ hEx ⟨[w.heap.size], rfl, by simp, fun D hD => ?_⟩
      · exact hs.t.agree (fun r hr _ => (hE1.trans g2).agree r hr) (hE1.trans g2).n
      · simp at hD
        subst hD
        exact ⟨Nat.le_refl _, (World.putObj_heap_other (by omega)).trans k3⟩
end
end Go.Em
