/- The abstract machine: a region whose order is open, whole. -/
import Derived.Test.YtokhjbkkpbceeaaGreatDoorEr
namespace Go.Em
open Go
set_option linter.unusedSimpArgs false
set_option linter.unusedVariables false

section
variable {P : Program} {orc : Orc} {mt : Meth} {ops : Array Oper} {ds : List DOp} {nA : Nat} {s : St} {TT : Nat → List AV} {MM : Nat → Mem} {C : Nat → Rec} {rr : Option Nat} {dp : Nat} {A : Amb}

/-- All have run. -/
theorem inv_end (hA : AmbOK A) (ok : DOK P ops ds nA) (can : Can orc mt s.m.top ds s.T (s.m.pushN nA) TT MM C) {ι : Emb} {w0 : World} {a0 : Act} {S : Nat → Prop} {b : Nat} {κ : Emb} {a : Act} {w : World}
    (ha0 : A ι s.m.hv w0) (hh0 : HR ι s.m.hv w0) (inv : Inv ds s TT MM C ι w0 a0 S b κ a w) (hall : ∀ i, i < ds.length → S i) :
    SR A κ ⟨TT ds.length, MM ds.length⟩ a w ∧ Ext ι s.m.hv w0 κ (MM ds.length).hv w := by
  have hb : b = ds.length := by
    have h1 := inv.bN
    rcases Nat.lt_or_ge b ds.length with h | h
    · have := (inv.hv b (inv.bH h)).1 (hall b h); omega
    · omega
  subst hb
  have hlook : ∀ x, (MM ds.length).hv.look x = (Abs ds s.m.top MM S ds.length).look x := by
    intro x
    rw [Abs_look]
    show (MM ds.length).look x = _
    by_cases hs : ∃ q, IsSlot ds s.m.top x q
    · obtain ⟨q, hq⟩ := hs
      obtain ⟨e, he, _, _⟩ := id hq
      have := get_lt he
      rw [absLook_slot ok hq, if_pos (hall q this), if_pos this]
    · rw [absLook_non hs]
  obtain ⟨TS, h1, h2, h3, h4⟩ := inv.tmps
  obtain ⟨g1, g2, g3⟩ := can_TT can ok ds.length (Nat.le_refl _)
  have hT : TS = TT ds.length := by
    apply List.ext_getElem?
    intro t
    by_cases hex : ∃ (j : Nat) (e : DOp), ds[j]? = some e ∧ e.io.dst = some t
    · obtain ⟨j, e, he, hd⟩ := hex
      rw [h4 j e t he (hall j (get_lt he)) hd, g3 j e t (get_lt he) he hd]
    · rw [h3 t (fun j e he _ hd => hex ⟨j, e, he, hd⟩), g2 t (fun j e _ he hd => hex ⟨j, e, he, hd⟩)]
  subst hT
  exact ⟨⟨h1, inv.hr.same rfl hlook, hA.ext _ _ _ _ _ _ ha0 hh0 (inv.ext.same rfl hlook)⟩, inv.ext.same rfl hlook⟩

theorem inv_begin (ok : DOK P ops ds nA) (can : Can orc mt s.m.top ds s.T (s.m.pushN nA) TT MM C) {ι : Emb} {a : Act} {w : World} (hs : SR A ι s a w) {S : Nat → Prop} (hS : ∀ i, ¬ S i) :
    ∃ b κ, Inv ds s TT MM C ι w a S b κ a w := by
  obtain ⟨b, _, hb2, hb3, hb4⟩ := next_heavy ds C 0 ds.length (by omega)
  let κ : Emb := fun r => if r < s.m.top then ι r else { ι r with ok := false }
  have hκ : ∀ r, r < s.m.top → κ r = ι r := fun r hr => by simp [κ, hr]
  have hκ2 : ∀ r, ¬ r < s.m.top → (κ r).ok = false := fun r hr => by simp [κ, hr]
  have hq := quiet_keep can ok b 0 (by omega) hb2 hb4
  have htop : (MM b).top = s.m.top + nA := by rw [hq.1, can.m0, Mem.top_pushN]
  have hlook : ∀ x k, (Abs ds s.m.top MM S b).look x = some k → s.m.hv.look x = some k := by
    intro x k hx
    rw [Abs_look] at hx
    by_cases hs : ∃ q, IsSlot ds s.m.top x q
    · obtain ⟨q, hq⟩ := hs
      rw [absLook_slot ok hq, if_neg (hS q)] at hx; cases hx
    · rw [absLook_non hs, hq.2 x (fun a _ _ h => hs ⟨a, h⟩), can.m0, Mem.look_pushN] at hx
      exact hx
  refine ⟨b, κ, hb2, fun i hi => ⟨fun h => absurd h (hS i), fun h => absurd hi (hb4 i (by omega) h)⟩, hb3, fun i d _ h => absurd h (hS i), ⟨fun x k hx => ?_, fun x k hx => ?_, fun x y k l hx hy hk hne => ?_⟩,
    ⟨fun r hr => hκ r hr, ?_, Nat.le_refl _, rfl, rfl, rfl, fun _ _ _ => rfl, fun x k hx => ?_⟩, fun i d hd h3 _ => hκ2 _ (by omega), ⟨s.T, hs.t.agree (fun r hr _ => hκ r hr) (by omega), rfl, fun _ _ => rfl, fun i d t _ h => absurd h (hS i)⟩, rfl⟩
  · have := hs.h.dom x k (hlook x k hx)
    show x < (MM b).top
    have h2 : s.m.hv.n = s.m.top := rfl
    omega
  · have h0 := hlook x k hx
    have hlt : x < s.m.top := hs.h.dom x k h0
    exact (hs.h.blk x k h0).weak (hκ x hlt) (fun r hr _ => hκ r hr) (by show s.m.top ≤ (MM b).top; omega)
  · have h0 := hlook x k hx
    have h1 := hlook y l hy
    rw [hκ x (hs.h.dom x k h0), hκ y (hs.h.dom y l h1)]
    exact hs.h.inj x y k l h0 h1 hk hne
  · show s.m.top ≤ (MM b).top; omega
  · have h0 := hlook x k hx
    exact .inr ⟨x, k, h0, id, by rw [hκ x (hs.h.dom x k h0)]⟩

theorem any_sound (hA : AmbOK A) (ho : OrcOK P A orc) (hmt : MethOK P mt) (ok : DOK P ops ds nA) (can : Can orc mt s.m.top ds s.T (s.m.pushN nA) TT MM C) {ι : Emb} {w0 : World} {a0 : Act} {Q : Exit → Act → World → Prop} (ha0 : A ι s.m.hv w0) (hh0 : HR ι s.m.hv w0)
    (hq : ∀ κ a' w', SR A κ ⟨TT ds.length, MM ds.length⟩ a' w' → Ext ι s.m.hv w0 κ (MM ds.length).hv w' → a'.defers = a0.defers → Q .normal a' w') :
    ∀ (fuel : Nat) (listed : Array Bool) (b : Nat) (κ : Emb) (a : Act) (w : World), listed.size = ops.size → listed.toList.count false ≤ fuel → Inv ds s TT MM C ι w0 a0 (fun j => listed.getD j false = true) b κ a w → wpAnyIn (Fz rr) dp P .any ops Q fuel listed a w := by
  have fin : ∀ (listed : Array Bool) (b : Nat) (κ : Emb) (a : Act) (w : World), listed.size = ops.size → Inv ds s TT MM C ι w0 a0 (fun j => listed.getD j false = true) b κ a w → (∀ i, i < ds.length → listed.getD i false = true) → Q .normal a w := by
    intro listed b κ a w _ inv hall
    have := inv_end hA ok can ha0 hh0 inv hall
    exact hq κ a w this.1 this.2 inv.dfs
  have allOf : ∀ (listed : Array Bool), listed.size = ops.size → Region.ready .any ops listed = [] → ∀ i, i < ds.length → listed.getD i false = true := by
    intro listed hsz hr i
    induction i using Nat.strongRecOn with
    | _ i ih =>
      intro hi
      obtain ⟨d, hd⟩ := get_some hi
      have hsize := ok.size
      have hoi : ops[i]? = some (ops[i]'(by omega)) := by simp
      apply Classical.byContradiction
      intro hn
      have hmem : i ∈ Region.ready .any ops listed := by
        rw [mem_ready]
        refine ⟨?_, _, hoi, fun e he hb => ?_⟩
        · have hlt : i < listed.size := by omega
          simp [hlt] at hn ⊢
          exact hn
        · have hin : e.on ∈ edgesOf (ops[i]'(by omega)) := by
            unfold edgesOf
            exact List.mem_map.2 ⟨e, List.mem_filter.2 ⟨by simpa using he, hb⟩, rfl⟩
          have hlt := ok.edge i d _ hd hoi _ hin
          exact ih _ hlt (by omega)
      rw [hr] at hmem
      cases hmem
  intro fuel
  induction fuel with
  | zero =>
    intro listed b κ a w hsz hct inv
    have hall : ∀ i, i < ds.length → listed.getD i false = true := by
      intro i hi
      have hlt : i < listed.size := by have := ok.size; omega
      have h0 : false ∉ listed.toList := List.count_eq_zero.1 (by omega)
      cases hv : listed[i] with
      | true => simp [hlt, hv]
      | false => exact absurd (by rw [← hv]; simp) h0
    refine ⟨?_, fin listed b κ a w hsz inv hall⟩
    cases hr : Region.ready .any ops listed with
    | nil => rfl
    | cons x xs =>
      have hx : x ∈ Region.ready .any ops listed := by rw [hr]; simp
      obtain ⟨h1, o, ho', _⟩ := mem_ready.1 hx
      have hlt : x < ops.size := (Array.getElem?_eq_some_iff.1 ho').1
      have := hall x (by have := ok.size; omega)
      have hlt' : x < listed.size := by omega
      simp [hlt'] at h1 this
      rw [h1] at this; cases this
  | succ fuel ih =>
    intro listed b κ a w hsz hct inv
    refine ⟨fun hr => fin listed b κ a w hsz inv (allOf listed hsz hr), fun i hi => ?_⟩
    obtain ⟨h1, o, hoi, hpre⟩ := mem_ready.1 hi
    have hlt : i < ops.size := (Array.getElem?_eq_some_iff.1 hoi).1
    have hlt' : i < listed.size := by omega
    obtain ⟨d, hd⟩ := get_some (l := ds) (i := i) (by have := ok.size; omega)
    have hnS : ¬ listed.getD i false = true := by
      simp [hlt'] at h1 ⊢
      exact h1
    have hedge : ∀ e ∈ edgesOf o, listed.getD e false = true := fun e he => by
      unfold edgesOf at he
      obtain ⟨x, hx, rfl⟩ := List.mem_map.1 he
      obtain ⟨hx1, hx2⟩ := List.mem_filter.1 hx
      exact hpre x (by simpa using hx1) hx2
    refine ready_step hA ho hmt ok can ha0 hh0 inv hd hoi hnS (fun q hq => ?_) fun b' κ' a' w' inv' => ?_
    · rcases (ok.anc i d o hd hoi q hq).2 with h | ⟨e, de, h2, h3, h4⟩
      · exact hedge q h
      · exact inv.dc e de h3 (hedge e h2) q h4
    · refine ih _ b' κ' a' w' (by simpa using hsz) ?_ ?_
      · rw [Array.toList_setIfInBounds, List.count_set (by simpa using hlt')]
        have hli : listed.toList[i]'(by simpa using hlt') = false := by
          simp [hlt'] at h1
          simpa using h1
        have hpos : 0 < listed.toList.count false := List.count_pos_iff.2 (by rw [← hli]; simp)
        rw [hli]
        simp only [beq_self_eq_true, if_true, show (true == false) = false from rfl, Bool.false_eq_true, if_false]
        omega
      · have hfun : (fun j => (listed.setIfInBounds i true).getD j false = true) = (fun j => listed.getD j false = true ∨ j = i) := by
          funext j
          apply propext
          by_cases e : i = j
          · subst e
            simp [hlt']
          · rw [getD_set_ne false e]
            exact ⟨.inl, fun h => h.resolve_right (fun e' => e e'.symm)⟩
        rw [hfun]
        exact inv'

/-- A region whose order is open. -/
theorem dreg_sound (hA : AmbOK A) (ho : OrcOK P A orc) (hmt : MethOK P mt) (hmix : P.follows .mixedOrders = true) {id : Nat} (hc : chkDreg P ops ds nA = true) {s' : St} {ι : Emb} {a : Act} {w : World} (hs : SR A ι s a w) (he : evReg orc mt nA ds s = some s') {Q : Exit → Act → World → Prop}
    (hq : ∀ κ a' w', SR A κ s' a' w' → Ext ι s.m.hv w κ s'.m.hv w' → a'.defers = a.defers → Q .normal a' w') : (Code.region id ops true).wpIn (Fz rr) dp P Q a w := by
  have ok := chkDreg_spec hc
  obtain ⟨TT, MM, C, can, hT, hM⟩ := evReg_can he
  refine wpIn_region_any hmix ?_
  have hs' : SR A ι s a w.drew := ⟨hs.t, hs.h.drew, hA.ext _ _ _ _ _ _ hs.amb hs.h (Ext.refl ι s.m.hv w).drew⟩
  have hS : ∀ i, ¬ (fun j => (Array.replicate ops.size false).getD j false = true) i := fun i => by
    simp only [Array.getD_eq_getD_getElem?, Array.getElem?_replicate]
    split <;> simp
  obtain ⟨b, κ, inv⟩ := inv_begin ok can hs' hS
  refine any_sound hA ho hmt ok can hs'.amb hs'.h (fun κ a' w' h1 h2 h3 => ?_) ops.size _ b κ a _ (by simp) (by simp) inv
  rw [hT, hM] at h1
  rw [hM] at h2
  exact hq κ a' w' h1 (h2.undrew) h3

end
end Go.Em
