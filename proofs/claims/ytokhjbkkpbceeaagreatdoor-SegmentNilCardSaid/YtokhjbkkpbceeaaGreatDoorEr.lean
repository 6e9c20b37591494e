/- The abstract machine: a region whose order is open: one operation, and all of them. -/
import Derived.Test.YtokhjbkkpbceeaaGreatDoorEq
import Derived.OrdersIn
namespace Go.Em
open Go
set_option linter.unusedSimpArgs false
set_option linter.unusedVariables false

section
variable {P : Program} {orc : Orc} {mt : Meth} {ops : Array Oper} {ds : List DOp} {nA : Nat} {s : St} {TT : Nat → List AV} {MM : Nat → Mem} {C : Nat → Rec} {rr : Option Nat} {dp : Nat} {A : Amb}

open Classical in
/-- What ran on a part of the memory, seen with the rest of it. -/
theorem merge {κ κ1 : Emb} {A M M' : Hv} {w w1 : World} (hA : HR κ A w) (hn : M.n = A.n) (hsub : ∀ x k, M.look x = some k → A.look x = some k) (hM' : HR κ1 M' w1) (he : Ext κ M w κ1 M' w1) (Z : Nat → Prop) (hZ : ∀ x, Z x → M.look x = none) :
    let L : Hv := ⟨M'.n, fun x => if Z x then A.look x else M'.look x⟩
    HR κ1 L w1 ∧ Ext κ A w κ1 L w1 := by
  intro L
  have orph : ∀ x k, Z x → A.look x = some k → κ1 x = κ x ∧ BR κ1 M'.n w1 x k := by
    intro x k hz hx
    have hxn := hA.dom x k hx
    have hk : κ1 x = κ x := he.agree x (by rw [hn]; exact hxn)
    have hb := hA.blk x k hx
    have hnn : A.n ≤ M'.n := hn ▸ he.n
    refine ⟨hk, (hb.weak (κ := κ1) (m := M'.n) hk (fun r hr _ => he.agree r (by rw [hn]; exact hr)) hnn).world ?_⟩
    rw [hk]
    refine he.frame _ hb.lt fun j l hj hl hjb => ?_
    have hne : j ≠ x := fun e => by rw [e, hZ x hz] at hj; cases hj
    exact hA.inj j x l k (hsub j l hj) hx hl hne hjb
  have cross : ∀ x k y l, Z x → A.look x = some k → M'.look y = some l → (k.ro = false ∨ l.ro = false) → (κ1 x).b ≠ (κ1 y).b := by
    intro x k y l hz hx hy hro heq
    have h1 := (orph x k hz hx).1
    rw [h1] at heq
    rcases he.sub y l hy with h2 | ⟨j, q, hj, hq, hjb⟩
    · have := (hA.blk x k hx).lt; omega
    · have hne : j ≠ x := fun e => by rw [e, hZ x hz] at hj; cases hj
      rcases hro with h | h
      · exact hA.inj x j k q hx (hsub j q hj) h (fun e => hne e.symm) (by rw [heq, hjb])
      · exact hA.inj j x q k (hsub j q hj) hx (hq h) hne (by rw [heq, hjb])
  have look : ∀ x k, L.look x = some k → (Z x ∧ A.look x = some k) ∨ (¬ Z x ∧ M'.look x = some k) := by
    intro x k hx
    by_cases hz : Z x
    · exact .inl ⟨hz, by simpa [L, hz] using hx⟩
    · exact .inr ⟨hz, by simpa [L, hz] using hx⟩
  constructor
  · refine ⟨fun x k hx => ?_, fun x k hx => ?_, fun x y k l hx hy hk hne => ?_⟩
    · rcases look x k hx with ⟨_, h⟩ | ⟨_, h⟩
      · exact Nat.lt_of_lt_of_le (hA.dom x k h) (hn ▸ he.n)
      · exact hM'.dom x k h
    · rcases look x k hx with ⟨hz, h⟩ | ⟨_, h⟩
      · exact (orph x k hz h).2
      · exact hM'.blk x k h
    · rcases look x k hx with ⟨hz, h⟩ | ⟨hz, h⟩
      · rcases look y l hy with ⟨hz2, h2⟩ | ⟨_, h2⟩
        · rw [(orph x k hz h).1, (orph y l hz2 h2).1]; exact hA.inj x y k l h h2 hk hne
        · exact cross x k y l hz h h2 (.inl hk)
      · rcases look y l hy with ⟨hz2, h2⟩ | ⟨_, h2⟩
        · exact fun e => cross y l x k hz2 h2 h (.inr hk) e.symm
        · exact hM'.inj x y k l h h2 hk hne
  · refine ⟨fun r hr => he.agree r (by rw [hn]; exact hr), hn ▸ he.n, he.size, he.tape, he.os, he.output, fun b hb hf => he.frame b hb fun i k hi hk => hf i k (hsub i k hi) hk, fun x k hx => ?_⟩
    rcases look x k hx with ⟨hz, h⟩ | ⟨_, h⟩
    · exact .inr ⟨x, k, h, id, by rw [(orph x k hz h).1]⟩
    · rcases he.sub x k h with h2 | ⟨j, q, hj, hq, hjb⟩
      · exact .inl h2
      · exact .inr ⟨j, q, hsub j q hj, hq, hjb⟩

theorem HR.same {κ : Emb} {A B : Hv} {w : World} (h : HR κ A w) (hn : B.n = A.n) (hl : ∀ x, B.look x = A.look x) : HR κ B w :=
  h.less hn fun i k hi => by rw [← hl]; exact hi
theorem Ext.same {ι κ : Emb} {H A B : Hv} {w w' : World} (h : Ext ι H w κ A w') (hn : B.n = A.n) (hl : ∀ x, B.look x = A.look x) : Ext ι H w κ B w' :=
  ⟨h.agree, hn ▸ h.n, h.size, h.tape, h.os, h.output, h.frame, fun i k hi => h.sub i k (by rw [← hl]; exact hi)⟩

theorem next_heavy (ds : List DOp) (C : Nat → Rec) (i : Nat) : ∀ k, i + k = ds.length → ∃ b, i ≤ b ∧ b ≤ ds.length ∧ (b < ds.length → Hvy ds C b) ∧ ∀ h, i ≤ h → h < b → ¬ Hvy ds C h := by
  intro k
  induction k generalizing i with
  | zero => intro h; exact ⟨i, Nat.le_refl _, by omega, fun h' => by omega, fun h' h1 h2 => by omega⟩
  | succ k ih =>
    intro h
    by_cases hh : Hvy ds C i
    · exact ⟨i, Nat.le_refl _, by omega, fun _ => hh, fun h' h1 h2 => by omega⟩
    · obtain ⟨b, h1, h2, h3, h4⟩ := ih (i + 1) (by omega)
      refine ⟨b, by omega, h2, h3, fun h' q1 q2 => ?_⟩
      rcases Nat.lt_or_ge i h' with h5 | h5
      · exact h4 h' (by omega) q2
      · obtain rfl : h' = i := by omega
        exact hh

theorem tmps_put (ok : DOK P ops ds nA) {S : Nat → Prop} {i : Nat} {d : DOp} (hd : ds[i]? = some d) {κ : Emb} {n : Nat} {TS : List AV} {a : Act} {v : AV} {cv : Value} (hi : ¬ S i) (ht : TR κ n TS a.tmps) (hl : TS.length = s.T.length)
    (h1 : ∀ t, (∀ (i : Nat) (d : DOp), ds[i]? = some d → S i → d.io.dst ≠ some t) → TS[t]? = s.T[t]?)
    (h2 : ∀ (i : Nat) (d : DOp) (t : Nat), ds[i]? = some d → S i → d.io.dst = some t → TS[t]? = if t < s.T.length then some (C i).v else none) (hv : VR κ v cv) (hb : Bd n v) (hc : (C i).v = v) :
    ∃ TS', TR κ n TS' (a.put d.io.dst cv).tmps ∧ TS'.length = s.T.length ∧ (∀ t, (∀ (j : Nat) (d : DOp), ds[j]? = some d → (S j ∨ j = i) → d.io.dst ≠ some t) → TS'[t]? = s.T[t]?) ∧
      ∀ (j : Nat) (d : DOp) (t : Nat), ds[j]? = some d → (S j ∨ j = i) → d.io.dst = some t → TS'[t]? = if t < s.T.length then some (C j).v else none := by
  refine ⟨putT TS d.io.dst v, ht.put hv hb _, ?_, fun t h => ?_, fun j e t he hj hdst => ?_⟩
  · cases d.io.dst <;> simp [putT, hl]
  · cases hdst : d.io.dst with
    | none => exact h1 t fun j e he hj => h j e he (.inl hj)
    | some u =>
      have hne : u ≠ t := fun e => h i d hd (.inr rfl) (by rw [hdst, e])
      simp only [putT]
      rw [List.getElem?_set_ne hne]
      exact h1 t fun j e he hj => h j e he (.inl hj)
  · rcases hj with hj | rfl
    · have hji : j ≠ i := fun e => hi (e ▸ hj)
      cases hdd : d.io.dst with
      | none => exact h2 j e t he hj hdst
      | some u =>
        have hne : u ≠ t := fun e' => ok.dst i j d e u hd he (fun e2 => hji e2.symm) hdd (by rw [hdst, e'])
        simp only [putT]
        rw [List.getElem?_set_ne hne]
        exact h2 j e t he hj hdst
    · rw [hd] at he; cases he
      rw [hdst]
      show (TS.set t v)[t]? = _
      rw [List.getElem?_set_self', ← hl, hc]
      by_cases ht' : t < TS.length <;> simp [ht']

theorem Abs_look {base b x : Nat} {S : Nat → Prop} : (Abs ds base MM S b).look x = absLook ds base MM S b x := rfl

theorem absLook_congr (ok : DOK P ops ds nA) {base b x : Nat} {S S' : Nat → Prop} (h : ∀ a, IsSlot ds base x a → (S' a ↔ S a)) : absLook ds base MM S' b x = absLook ds base MM S b x := by
  by_cases hs : ∃ a, IsSlot ds base x a
  · obtain ⟨a, ha⟩ := hs
    rw [absLook_slot ok ha, absLook_slot ok ha]
    have := h a ha
    by_cases hS : S a
    · rw [if_pos (this.2 hS), if_pos hS]
    · rw [if_neg (fun h => hS (this.1 h)), if_neg hS]
  · rw [absLook_non hs, absLook_non hs]

open Classical in
/-- One operation that is ready. -/
theorem ready_step (hA : AmbOK A) (ho : OrcOK P A orc) (hmt : MethOK P mt) (ok : DOK P ops ds nA) (can : Can orc mt s.m.top ds s.T (s.m.pushN nA) TT MM C) {ι : Emb} {w0 : World} {a0 : Act} {S : Nat → Prop} {b : Nat} {κ : Emb} {a : Act} {w : World}
    (ha0 : A ι s.m.hv w0) (hh0 : HR ι s.m.hv w0) (inv : Inv ds s TT MM C ι w0 a0 S b κ a w) {i : Nat} {d : DOp} {o : Oper} (hd : ds[i]? = some d) (hoi : ops[i]? = some o) (hi : ¬ S i) (hS : ∀ q ∈ d.anc, S q) {Q : Exit → Act → World → Prop} {K : Act → World → Prop}
    (hK : ∀ b' κ' a' w', Inv ds s TT MM C ι w0 a0 (fun j => S j ∨ j = i) b' κ' a' w' → K a' w') : wpOpIn (Fz rr) dp P ops Q i K a w := by
  obtain ⟨dn, hway, hran3, hmem⟩ := way_of can hd
  obtain ⟨TS, ht, htl, ht1, ht2⟩ := inv.tmps
  have hiN := get_lt hd
  have hbN := inv.bN
  have hnames := names_same can ok inv.dc hd hi hS ht1 ht2
  have hgd := gd_same hnames
  have hops := opds_same hnames
  have hchk := ok.op i d o hd hoi
  simp only [chkOp, Bool.and_eq_true] at hchk
  obtain ⟨⟨c1, c2⟩, c3⟩ := hchk
  have hdst := dstOk_spec c1
  have hdc' : ∀ (j : Nat) (e : DOp), ds[j]? = some e → (S j ∨ j = i) → ∀ q ∈ e.anc, S q ∨ q = i := fun j e he hj q hq => by
    rcases hj with hj | rfl
    · exact .inl (inv.dc j e he hj q hq)
    · rw [hd] at he; cases he; exact .inl (hS q hq)
  obtain ⟨hMr, hMsub⟩ := mask_less can ok inv.bN hd hS inv.hr
  have hAM : A κ ((MM b).mask s.m.top d.msk).hv w := hA.less _ _ _ _ (hA.ext _ _ _ _ _ _ ha0 hh0 inv.ext) (by show ((MM b).mask s.m.top d.msk).top = (MM b).top; rw [Mem.top_mask]) hMsub
  have hMtop : ((MM b).mask s.m.top d.msk).top = (MM b).top := Mem.top_mask _ _ _
  have ht' : TR κ ((MM b).mask s.m.top d.msk).top TS a.tmps := by rw [hMtop]; exact ht
  -- an operation that leaves the memory as it is
  have light : ¬ Hvy ds C i → d.kd ≠ 3 → ∀ v, (C i).v = v → evK orc mt TS ((MM b).mask s.m.top d.msk) d.io.k = some (v, (MM b).mask s.m.top d.msk) → o.wpIn (Fz rr) dp P a w K Q := by
    intro hnh hk3 v hcv hev
    refine op_sound ho hmt hMr hAM ht' c3 hev fun κ1 cv w1 hv hb hm1 he1 => ?_
    have hZ : ∀ x, (∃ a, IsSlot ds s.m.top x a ∧ (a ∉ d.anc ∨ b ≤ a)) → ((MM b).mask s.m.top d.msk).look x = none := by
      rintro x ⟨q, ⟨e, he, h3, rfl⟩, hor⟩
      rw [Mem.look_mask _ _ _ _ (msk_lt ok can hd hbN)]
      by_cases hq : q ∈ d.anc
      · split
        · rfl
        · exact slot_none can ok he h3 b (hor.resolve_left (fun h => h hq))
      · rw [if_pos ⟨e.rk, (ok.msk i d hd _).2 ⟨q, e, he, h3, hq, rfl⟩, rfl⟩]
    obtain ⟨g1, g2⟩ := merge inv.hr hMtop hMsub hm1 he1 _ hZ
    have hsame : ∀ x, (Abs ds s.m.top MM (fun j => S j ∨ j = i) b).look x = (if (∃ a, IsSlot ds s.m.top x a ∧ (a ∉ d.anc ∨ b ≤ a)) then (Abs ds s.m.top MM S b).look x else ((MM b).mask s.m.top d.msk).hv.look x) := by
      intro x
      rw [Abs_look, Abs_look, absLook_congr ok (S := S) (fun q hq => ⟨fun h => h.resolve_right (fun e => by
        obtain ⟨e', he', h3, _⟩ := hq
        subst e
        rw [hd] at he'; cases he'
        exact hk3 h3), .inl⟩)]
      split
      · rfl
      · rename_i hnz
        show _ = ((MM b).mask s.m.top d.msk).look x
        rw [Mem.look_mask _ _ _ _ (msk_lt ok can hd hbN)]
        by_cases hs : ∃ q, IsSlot ds s.m.top x q
        · obtain ⟨q, hq⟩ := hs
          have hq1 : q ∈ d.anc := Classical.byContradiction fun h => hnz ⟨q, hq, .inl h⟩
          have hq2 : q < b := by
            rcases Nat.lt_or_ge q b with h | h
            · exact h
            · exact absurd ⟨q, hq, .inr h⟩ hnz
          rw [absLook_slot ok hq, if_pos (hS q hq1), if_pos hq2, if_neg]
          rintro ⟨r, hr, hx⟩
          obtain ⟨q', e', he', h3', hna, rfl⟩ := (ok.msk i d hd r).1 hr
          have := slot_unique ok hq ⟨e', he', h3', hx⟩
          exact hna (this ▸ hq1)
        · rw [absLook_non hs, if_neg]
          rintro ⟨r, hr, hx⟩
          obtain ⟨q', e', he', h3', hna, rfl⟩ := (ok.msk i d hd r).1 hr
          exact hs ⟨q', e', he', h3', hx⟩
    have hn : (Abs ds s.m.top MM (fun j => S j ∨ j = i) b).n = ((MM b).mask s.m.top d.msk).hv.n := hMtop.symm
    have hTS1 : TR κ1 (MM b).top TS a.tmps := ht.agree (fun r hr _ => he1.agree r (by show r < ((MM b).mask s.m.top d.msk).top; rw [hMtop]; exact hr)) (Nat.le_refl _)
    refine hK b κ1 _ w1 ⟨hbN, fun j hj => ?_, inv.bH, hdc', g1.same hn hsame, (inv.ext.trans g2).same hn hsame, fun j e he h3 hj => ?_, ?_, (put_defers _ _ _).trans inv.dfs⟩
    · constructor
      · rintro (h | rfl)
        · exact (inv.hv j hj).1 h
        · exact absurd hj hnh
      · exact fun h => .inl ((inv.hv j hj).2 h)
    · have hlt : s.m.top + e.rk < (MM b).top := by have := can_top can b hbN; have := ok.kd3 j e he h3; omega
      rw [he1.agree _ (by show _ < ((MM b).mask s.m.top d.msk).top; rw [hMtop]; exact hlt)]
      exact inv.pend j e he h3 (fun h => hj (.inl h))
    · rw [← hdst]
      exact tmps_put ok hd hi hTS1 htl ht1 ht2 hv (by rw [hMtop] at hb; exact hb) hcv
  unfold wpOpIn
  rw [hoi]
  simp only
  generalize hCi : C i = c at hway
  cases hway with
  | skip hg =>
    have hw := wanted_spec ht c2 (hgd.trans hg)
    rw [hw, if_neg (by simp)]
    refine ⟨fun _ _ => trivial, ?_⟩
    have hk3 : d.kd ≠ 3 := hran3 (by rw [hCi])
    have hsame : ∀ x, (Abs ds s.m.top MM (fun j => S j ∨ j = i) b).look x = (Abs ds s.m.top MM S b).look x := fun x => by
      rw [Abs_look, Abs_look]
      exact absLook_congr ok (S := S) (fun q hq => ⟨fun h => h.resolve_right (fun e => by
        obtain ⟨e', he', h3, _⟩ := hq
        subst e
        rw [hd] at he'; cases he'
        exact hk3 h3), .inl⟩)
    refine hK b κ _ w ⟨hbN, fun j hj => ?_, inv.bH, hdc', inv.hr.same rfl hsame, inv.ext.same rfl hsame, fun j e he h3 hj => inv.pend j e he h3 (fun h => hj (.inl h)), ?_, (put_defers _ _ _).trans inv.dfs⟩
    · constructor
      · rintro (h | rfl)
        · exact (inv.hv j hj).1 h
        · obtain ⟨_, _, _, hr⟩ := hj; rw [hCi] at hr; cases hr
      · exact fun h => .inl ((inv.hv j hj).2 h)
    · rw [← hdst]
      exact tmps_put ok hd hi ht htl ht1 ht2 (.u _) (Bd.u _) (by rw [hCi])
  | pure v hg hk m' he =>
    have hw := wanted_spec ht c2 (hgd.trans hg)
    rw [hw, if_pos rfl]
    refine light (fun ⟨d', hd', h2, _⟩ => by rw [hd] at hd'; cases hd'; omega) (by omega) v (by rw [hCi]) ?_
    rw [evK_congr hops]
    exact (evK_pure (ok.kd0 i d hd hk) he _).2
  | read v hg hk he hwr =>
    have hw := wanted_spec ht c2 (hgd.trans hg)
    rw [hw, if_pos rfl]
    refine light (fun ⟨d', hd', h2, _⟩ => by rw [hd] at hd'; cases hd'; omega) (by omega) v (by rw [hCi]) ?_
    rw [evK_congr hops]
    have hread := ok.kd1 i d hd hk
    -- it suffices to read so on a memory that looks the same
    have fin : ∀ M : Mem, evL orc mt (TT i) (M.mask s.m.top d.msk) d.io.k = some v → (∀ r ∈ d.msk, s.m.top + r < M.top) → (∀ x, (¬ ∃ r ∈ d.msk, x = s.m.top + r) → (MM b).look x = M.look x) →
        evK orc mt (TT i) ((MM b).mask s.m.top d.msk) d.io.k = some (v, (MM b).mask s.m.top d.msk) := by
      intro M hM hlt hx
      unfold evL at hM
      cases hev : evK orc mt (TT i) (M.mask s.m.top d.msk) d.io.k with
      | none => simp [hev] at hM
      | some r =>
        obtain ⟨v', m'⟩ := r
        simp only [hev, Option.some.injEq] at hM
        subst hM
        refine (evK_read hread hev).2 _ ?_
        funext x
        rw [Mem.look_mask _ _ _ _ (msk_lt ok can hd hbN), Mem.look_mask _ _ _ _ hlt]
        split
        · rfl
        · rename_i hn; exact hx x hn
    -- a slot that is not hidden belongs to what comes ahead
    have shown : ∀ x q, IsSlot ds s.m.top x q → (¬ ∃ r ∈ d.msk, x = s.m.top + r) → q ∈ d.anc := fun x q ⟨e, he', h3, hx⟩ hn => Classical.byContradiction fun h =>
      hn ⟨e.rk, (ok.msk i d hd _).2 ⟨q, e, he', h3, h, rfl⟩, hx⟩
    have anclt : ∀ q ∈ d.anc, q < i := fun q hq => (ok.anc i d o hd hoi q hq).1
    rcases Nat.lt_or_ge b i with hbi | hbi
    · -- the next heavy operation stands ahead of it in the text
      have hHb := inv.bH (by omega)
      obtain ⟨db, hdb, hkb, hrb⟩ := hHb
      have hnb : b ∉ d.anc := fun h => by
        have := (inv.hv b ⟨db, hdb, hkb, hrb⟩).1 (hS b h); omega
      have := wroteOk_spec hwr b db (C b) (hmem b db hbi hdb) hkb hrb hnb
      have hpre : (C b).pre = MM b := by
        obtain ⟨dn', hw', _⟩ := way_of can hdb
        generalize C b = cb at hw'
        cases hw' <;> rfl
      rw [hpre] at this
      exact fin (MM b) this (msk_lt ok can hd hbN) fun x _ => rfl
    · -- the last heavy operation behind it that has run, if there is one
      by_cases hex : ∃ h, i ≤ h ∧ h < b ∧ Hvy ds C h
      · obtain ⟨h, hh1, hh2, hh3, hlast⟩ : ∃ h, i ≤ h ∧ h < b ∧ Hvy ds C h ∧ ∀ k, h < k → k < b → ¬ Hvy ds C k := by
          have : ∀ n, ∀ h, b - h = n → i ≤ h → h < b → Hvy ds C h → ∃ h, i ≤ h ∧ h < b ∧ Hvy ds C h ∧ ∀ k, h < k → k < b → ¬ Hvy ds C k := by
            intro n
            induction n using Nat.strongRecOn with
            | _ n ih =>
              intro h hn q1 q2 q3
              by_cases hk : ∃ k, h < k ∧ k < b ∧ Hvy ds C k
              · obtain ⟨k, k1, k2, k3⟩ := hk
                exact ih (b - k) (by omega) k rfl (by omega) k2 k3
              · exact ⟨h, q1, q2, q3, fun k k1 k2 k3 => hk ⟨k, k1, k2, k3⟩⟩
          obtain ⟨h, q1, q2, q3⟩ := hex
          exact this _ h rfl q1 q2 q3
        have hhi : h ≠ i := fun e => by
          obtain ⟨d', hd', h2, _⟩ := hh3
          rw [e, hd] at hd'; cases hd'; omega
        have hSh : S h := (inv.hv h hh3).2 hh2
        obtain ⟨dh, hdh, hkh, hrh⟩ := hh3
        have hnanc : i ∉ dh.anc := fun hm => hi (inv.dc h dh hdh hSh i hm)
        obtain ⟨dn', hw', _, hmem'⟩ := way_of can hdh
        have hm := hmem' i d (by omega) hd
        have hpost := can.mm h dh hdh
        rw [hCi] at hm
        generalize C h = ch at hw' hrh hpost
        cases hw' with
        | skip => cases hrh
        | pure v h1 h2 => omega
        | read v h1 h2 => omega
        | new v b h1 h2 => omega
        | heavy v2 m2 h1 h2 he2 hr2 =>
          have := readsOk_spec hr2 i d _ hm hk rfl hnanc
          simp only at this hpost
          rw [← hpost] at this
          refine fin (MM (h + 1)) this (msk_lt ok can hd (by omega)) fun x hx => ?_
          refine (quiet_keep can ok b (h + 1) (by omega) hbN (fun k k1 k2 => hlast k (by omega) k2)).2 x fun q q1 q2 hq => ?_
          have := anclt q (shown x q hq hx); omega
      · refine fin (MM i) (by rw [he]) (msk_lt ok can hd (by omega)) fun x hx => ?_
        refine (quiet_keep can ok b i hbi hbN (fun k k1 k2 k3 => hex ⟨k, k1, k2, k3⟩)).2 x fun q q1 q2 hq => ?_
        have := anclt q (shown x q hq hx); omega
  | heavy v m' hg hk he hr =>
    have hw := wanted_spec ht c2 (hgd.trans hg)
    rw [hw, if_pos rfl]
    have hHi : Hvy ds C i := ⟨d, hd, hk, by rw [hCi]⟩
    have hib : i = b := by
      have h1 : ¬ i < b := fun h => hi ((inv.hv i hHi).2 h)
      rcases Nat.lt_or_ge b i with h2 | h2
      · obtain ⟨db, hdb, hkb, hrb⟩ := inv.bH (by omega)
        have := (inv.hv b ⟨db, hdb, hkb, hrb⟩).1 (hS b (ok.heavy b i db d hdb hd hkb hk h2)); omega
      · omega
    subst hib
    rw [← evK_congr hops] at he
    obtain ⟨b', hb1, hb2, hb3, hb4⟩ := next_heavy ds C (i + 1) (ds.length - (i + 1)) (by omega)
    have hmm := can.mm i d hd
    rw [hCi] at hmm
    simp only at hmm
    have htop := evK_top he
    rw [hMtop] at htop
    refine op_sound ho hmt hMr hAM ht' c3 he fun κ1 cv w1 hv hb hm1 he1 => ?_
    obtain ⟨Z, hZd⟩ : ∃ Z : Nat → Prop, ∀ x, Z x ↔ ∃ r ∈ d.msk, x = s.m.top + r := ⟨_, fun _ => Iff.rfl⟩
    have hZ : ∀ x, Z x → ((MM i).mask s.m.top d.msk).hv.look x = none := by
      intro x hx
      rw [hZd] at hx
      show ((MM i).mask s.m.top d.msk).look x = none
      rw [Mem.look_mask _ _ _ _ (msk_lt ok can hd hbN), if_pos hx]
    obtain ⟨g1, g2⟩ := merge inv.hr hMtop hMsub hm1 he1 Z hZ
    have hq := quiet_keep can ok b' (i + 1) hb1 hb2 hb4
    have hn0 : (MM b').top = m'.top := by rw [hq.1, hmm, Mem.top_rest]
    have hn : (Abs ds s.m.top MM (fun j => S j ∨ j = i) b').n = m'.hv.n := hn0
    have hi1 : ∀ x, (MM (i + 1)).look x = if ∃ r ∈ d.msk, x = s.m.top + r then (MM i).look x else m'.look x := fun x => by
      rw [hmm, Mem.look_rest _ _ _ _ _ (fun r hr => by have := msk_lt ok can hd hbN r hr; omega)]
    have hsame : ∀ x, (Abs ds s.m.top MM (fun j => S j ∨ j = i) b').look x = if Z x then (Abs ds s.m.top MM S i).look x else m'.hv.look x := by
      intro x
      rw [Abs_look, Abs_look, show m'.hv.look x = m'.look x from rfl]
      by_cases hs : ∃ q, IsSlot ds s.m.top x q
      · obtain ⟨q, hsq⟩ := hs
        have hsq' := hsq
        obtain ⟨e, heq, h3, rfl⟩ := hsq'
        rw [absLook_slot ok hsq, absLook_slot ok hsq]
        have hqi : q ≠ i := by
          rintro rfl
          rw [hd] at heq; cases heq; omega
        have hSq : (S q ∨ q = i) ↔ S q := ⟨fun h => h.resolve_right hqi, .inl⟩
        simp only [hSq]
        have hZq : (∃ r ∈ d.msk, s.m.top + e.rk = s.m.top + r) ↔ q ∉ d.anc := by
          constructor
          · rintro ⟨r, hr, hx⟩
            obtain ⟨q', e', he', h3', hna, rfl⟩ := (ok.msk i d hd r).1 hr
            have := slot_unique ok hsq ⟨e', he', h3', hx⟩
            rw [this]; exact hna
          · exact fun h => ⟨e.rk, (ok.msk i d hd _).2 ⟨q, e, heq, h3, h, rfl⟩, rfl⟩
        by_cases hqa : q ∈ d.anc
        · have hqlt := (ok.anc i d o hd hoi q hqa).1
          rw [if_neg (show ¬ Z _ by rw [hZd, hZq]; exact fun h => h hqa), if_pos (hS q hqa), if_pos (by omega),
            slot_keep can ok heq h3 b' (i + 1) (by omega) hb1 hb2 (fun h d' h1 h2 h3 => absurd h3 (hb4 h h1 h2)), hi1, if_neg (by rw [hZq]; exact fun h => h hqa)]
        · rw [if_pos ((hZd _).2 (hZq.2 hqa))]
          by_cases hSq2 : S q
          · rw [if_pos hSq2, if_pos hSq2]
            rcases Nat.lt_or_ge q i with hlt | hge
            · rw [if_pos (by omega), if_pos hlt, slot_keep can ok heq h3 b' (i + 1) (by omega) hb1 hb2 (fun h d' h1 h2 h3 => absurd h3 (hb4 h h1 h2)), hi1, if_pos (hZq.2 hqa)]
            · rw [if_neg (show ¬ q < i by omega)]
              by_cases hqb : q < b'
              · rw [if_pos hqb, slot_keep can ok heq h3 b' (q + 1) (by omega) (by omega) hb2 (fun h d' h1 h2 h3 => absurd h3 (hb4 h (by omega) h2))]
              · rw [if_neg hqb]
          · rw [if_neg hSq2, if_neg hSq2]
      · have hnz : ¬ ∃ r ∈ d.msk, x = s.m.top + r := by
          rintro ⟨r, hr, hx⟩
          obtain ⟨q', e', he', h3', hna, rfl⟩ := (ok.msk i d hd r).1 hr
          exact hs ⟨q', e', he', h3', hx⟩
        rw [absLook_non hs, if_neg (fun h => hnz ((hZd _).1 h)), hq.2 x (fun a h1 h2 h3 => hs ⟨a, h3⟩), hi1, if_neg hnz]
    have hTS1 : TR κ1 (MM b').top TS a.tmps := ht.agree (fun r hr _ => he1.agree r (by show r < ((MM i).mask s.m.top d.msk).top; rw [hMtop]; exact hr)) (by omega)
    refine hK b' κ1 _ w1 ⟨hb2, fun j hj => ?_, hb3, hdc', g1.same hn hsame, (inv.ext.trans g2).same hn hsame, fun j e he h3 hj => ?_, ?_, (put_defers _ _ _).trans inv.dfs⟩
    · constructor
      · rintro (h | rfl)
        · have := (inv.hv j hj).1 h; omega
        · omega
      · intro h
        rcases Nat.lt_trichotomy j i with h1 | h1 | h1
        · exact .inl ((inv.hv j hj).2 h1)
        · exact .inr h1
        · exact absurd hj (hb4 j (by omega) h)
    · have hlt : s.m.top + e.rk < (MM i).top := by have := can_top can i hbN; have := ok.kd3 j e he h3; omega
      rw [he1.agree _ (by show _ < ((MM i).mask s.m.top d.msk).top; rw [hMtop]; exact hlt)]
      exact inv.pend j e he h3 (fun h => hj (.inl h))
    · rw [← hdst]
      exact tmps_put ok hd hi hTS1 htl ht1 ht2 hv (by rw [hn0]; exact hb) (by rw [hCi])
  | new v bl hg hk he =>
    have hw := wanted_spec ht c2 (hgd.trans hg)
    rw [hw, if_pos rfl]
    have he0 := he
    rw [← evA_congr hops] at he
    have c3' : chkK P o.op d.io.k = true := by
      revert he c3
      cases d.io.k <;> intro c3 he <;> first | (simpa [chkC1] using c3) | (simp [evA] at he)
    obtain ⟨hro, hbd, href, cv, c, hrun, hsz, hcells, hval⟩ := evA_sound (w := w) ht c3' he
    have hslot : IsSlot ds s.m.top (s.m.top + d.rk) i := ⟨d, hd, hk, rfl⟩
    have hpend := inv.pend i d hd hk hi
    have htopb := can_top can b hbN
    have hrk := ok.kd3 i d hd hk
    have hmm := can.mm i d hd
    rw [hCi] at hmm
    simp only at hmm
    have hat : absLook ds s.m.top MM (fun j => S j ∨ j = i) b (s.m.top + d.rk) = some bl := by
      have h1 : (MM (i + 1)).look (s.m.top + d.rk) = some bl := by
        rw [hmm, Mem.look_put _ _ _ _ (by have := can_top can i (by omega); omega), if_pos rfl]
      rw [absLook_slot ok hslot, if_pos (Or.inr rfl)]
      by_cases hib : i < b
      · rw [if_pos hib, slot_keep can ok hd hk b (i + 1) (by omega) (by omega) hbN (fun h d' h1 h2 h3 h4 hm => hi (inv.dc h d' h4 ((inv.hv h h3).2 h2) i hm)), h1]
      · rw [if_neg hib, h1]
    have hoth : ∀ x, x ≠ s.m.top + d.rk → absLook ds s.m.top MM (fun j => S j ∨ j = i) b x = absLook ds s.m.top MM S b x := fun x hx =>
      absLook_congr ok (S := S) fun q hq => ⟨fun h => h.resolve_right (fun e => by
        subst e
        obtain ⟨e', he', h3, hx'⟩ := hq
        rw [hd] at he'; cases he'
        exact hx hx'), .inl⟩
    let κ1 : Emb := fun r => if r = s.m.top + d.rk then ⟨w.heap.size, 0, c.size, bl.es, true⟩ else κ r
    have hκs : κ1 (s.m.top + d.rk) = ⟨w.heap.size, 0, c.size, bl.es, true⟩ := by simp [κ1]
    have hκo : ∀ r, r ≠ s.m.top + d.rk → κ1 r = κ r := fun r hr => by simp [κ1, hr]
    have hκok : ∀ r, (κ r).ok = true → κ1 r = κ r := fun r hr => hκo r (fun e => by rw [e, hpend] at hr; cases hr)
    have hdom : ∀ x k, absLook ds s.m.top MM S b x = some k → x ≠ s.m.top + d.rk → (κ1 x = κ x) ∧ BR κ1 (MM b).top (w.alloc (.cells c bl.el)) x k := fun x k hx hne => by
      have hb := inv.hr.blk x k hx
      refine ⟨hκo x hne, (hb.weak (κ := κ1) (m := (MM b).top) (hκo x hne) (fun r _ hr => hκok r hr) (Nat.le_refl _)).world ?_⟩
      rw [hκo x hne]
      exact Go.RowKit.Below.heap_alloc _ _ _ hb.lt
    have halloc : (w.alloc (.cells c bl.el)).heap[w.heap.size]? = some (.cells c bl.el (0, 0)) := by
      show (w.heap.push _)[w.heap.size]? = _
      simp
    have hgrow : (w.alloc (.cells c bl.el)).heap.size = w.heap.size + 1 := by
      show (w.heap.push _).size = _
      simp
    have hbr : BR κ1 (MM b).top (w.alloc (.cells c bl.el)) (s.m.top + d.rk) bl := by
      refine ⟨by rw [hκs], by rw [hκs], hbd, c, bl.el, (0, 0), ?_, fun _ => ⟨rfl, rfl, by rw [hκs], by rw [hκs]⟩, by rw [hκs]; simpa using hsz, fun j x hx => ?_⟩
      · rw [hκs]; exact halloc
      · rw [hκs]
        obtain ⟨y, hy, hxy⟩ := hcells j x hx
        exact ⟨y, by simpa using hy, hxy.congr fun r _ hr => hκok r hr⟩
    unfold Oper.wpIn
    refine ⟨fun _ _ => trivial, ?_⟩
    rw [Oper.semAt_eq _ _ _ (not_defer c3), hrun]
    show K (a.put o.dst cv) _
    refine hK b κ1 _ _ ⟨hbN, fun j hj => ?_, inv.bH, hdc', ⟨fun x k hx => ?_, fun x k hx => ?_, fun x y k l hx hy hk' hne => ?_⟩, ⟨fun r hr => ?_, inv.ext.n, ?_, inv.ext.tape, inv.ext.os, inv.ext.output, fun bb hbb hf => ?_, fun x k hx => ?_⟩, fun j e he h3 hj => ?_, ?_, (put_defers _ _ _).trans inv.dfs⟩
    · constructor
      · rintro (h | rfl)
        · exact (inv.hv j hj).1 h
        · obtain ⟨d', hd', h2, _⟩ := hj
          rw [hd] at hd'; cases hd'; omega
      · exact fun h => .inl ((inv.hv j hj).2 h)
    · by_cases e : x = s.m.top + d.rk
      · rw [e]; show _ < (MM b).top; omega
      · exact inv.hr.dom x k ((hoth x e).symm.trans hx)
    · by_cases e : x = s.m.top + d.rk
      · subst e
        have hx' : absLook ds s.m.top MM (fun j => S j ∨ j = i) b (s.m.top + d.rk) = some k := hx
        rw [hat] at hx'; cases hx'
        exact hbr
      · exact (hdom x k ((hoth x e).symm.trans hx) e).2
    · by_cases e : x = s.m.top + d.rk
      · have e2 : y ≠ s.m.top + d.rk := fun h => hne (e.trans h.symm)
        have hy' := (hoth y e2).symm.trans hy
        have := (inv.hr.blk y l hy').lt
        rw [e, hκs, hκo y e2]
        show w.heap.size ≠ _
        omega
      · have hx' := (hoth x e).symm.trans hx
        by_cases e2 : y = s.m.top + d.rk
        · have := (inv.hr.blk x k hx').lt
          rw [e2, hκs, hκo x e]
          show _ ≠ w.heap.size
          omega
        · rw [hκo x e, hκo y e2]
          exact inv.hr.inj x y k l hx' ((hoth y e2).symm.trans hy) hk' hne
    · rw [hκo r (by have : r < s.m.top := hr; omega)]
      exact inv.ext.agree r hr
    · have := inv.ext.size
      rw [hgrow]; omega
    · have := inv.ext.size
      rw [Go.RowKit.Below.heap_alloc _ _ _ (by omega)]
      exact inv.ext.frame bb hbb hf
    · by_cases e : x = s.m.top + d.rk
      · rw [e, hκs]; exact .inl inv.ext.size
      · rw [hκo x e]; exact inv.ext.sub x k ((hoth x e).symm.trans hx)
    · have hje : j ≠ i := fun e => hj (.inr e)
      rw [hκo _ (fun e' => hje (ok.inj j i e d he hd h3 hk (by omega)))]
      exact inv.pend j e he h3 (fun h => hj (.inl h))
    · rw [← hdst]
      exact tmps_put ok hd hi (ht.agree (fun r _ hr => hκok r hr) (Nat.le_refl _)) htl ht1 ht2 (hval κ1 hκs) (fun r hr => by have := href r hr; show r < (MM b).top; omega) (by rw [hCi])

end
end Go.Em
