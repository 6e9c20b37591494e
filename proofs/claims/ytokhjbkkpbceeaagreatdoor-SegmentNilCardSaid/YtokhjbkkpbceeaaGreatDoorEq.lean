/- The abstract machine: a region whose order is open: whatever the order, the end is the one computed. -/
import Derived.Test.YtokhjbkkpbceeaaGreatDoorEp
namespace Go.Em
open Go
set_option linter.unusedSimpArgs false
set_option linter.unusedVariables false

section
variable {P : Program} {orc : Orc} {mt : Meth} {ops : Array Oper} {ds : List DOp} {nA : Nat} {s : St} {TT : Nat → List AV} {MM : Nat → Mem} {C : Nat → Rec}

/-- A heavy operation that ran. -/
def Hvy (ds : List DOp) (C : Nat → Rec) (i : Nat) : Prop := ∃ d, ds[i]? = some d ∧ d.kd = 2 ∧ (C i).ran = true
/-- x is the name of the new place of operation a. -/
def IsSlot (ds : List DOp) (base x a : Nat) : Prop := ∃ d, ds[a]? = some d ∧ d.kd = 3 ∧ x = base + d.rk

theorem way_of (can : Can orc mt s.m.top ds s.T (s.m.pushN nA) TT MM C) {i : Nat} {d : DOp} (hd : ds[i]? = some d) :
    ∃ dn, Way orc mt s.m.top dn d (TT i) (MM i) (C i) ∧ ((C i).ran = false → d.kd ≠ 3) ∧ ∀ (q : Nat) (e : DOp), q < i → ds[q]? = some e → (q, e, C q) ∈ dn := by
  obtain ⟨dn, h1, h2⟩ := can.c i d hd
  exact ⟨dn, (evD1_way h1).1, (evD1_way h1).2, h2⟩

theorem get_lt {α : Type} {l : List α} {i : Nat} {x : α} (h : l[i]? = some x) : i < l.length := (List.getElem?_eq_some_iff.1 h).1
theorem get_some {α : Type} {l : List α} {i : Nat} (h : i < l.length) : ∃ x, l[i]? = some x := ⟨l[i], by simp [h]⟩

/-- The slots of the hidden places lie in the memory. -/
theorem can_top (can : Can orc mt s.m.top ds s.T (s.m.pushN nA) TT MM C) : ∀ i, i ≤ ds.length → s.m.top + nA ≤ (MM i).top
  | 0, _ => by rw [can.m0, Mem.top_pushN]; exact Nat.le_refl _
  | i + 1, h => by
    have ih := can_top can i (by omega)
    obtain ⟨d, hd⟩ := get_some (l := ds) (i := i) (by omega)
    obtain ⟨dn, hw, _⟩ := way_of can hd
    rw [can.mm i d hd]
    generalize C i = c at hw
    cases hw with
    | skip => exact ih
    | pure => exact ih
    | read => exact ih
    | heavy v m' h1 h2 he hr =>
      have := evK_top he
      rw [Mem.top_mask] at this
      show _ ≤ (m'.rest (MM i) s.m.top d.msk).top
      rw [Mem.top_rest]; omega
    | new v b h1 h2 he => show _ ≤ ((MM i).put _ _).top; rw [Mem.top_put]; exact ih

theorem msk_lt (ok : DOK P ops ds nA) (can : Can orc mt s.m.top ds s.T (s.m.pushN nA) TT MM C) {i j : Nat} {d : DOp} (hd : ds[i]? = some d) (hj : j ≤ ds.length) : ∀ r ∈ d.msk, s.m.top + r < (MM j).top := by
  intro r hr
  obtain ⟨a, e, h1, h2, _, rfl⟩ := (ok.msk i d hd r).1 hr
  have := ok.kd3 a e h1 h2
  have := can_top can j hj
  omega

/-- One step: what an operation that is not heavy does to the memory. -/
theorem step_light (can : Can orc mt s.m.top ds s.T (s.m.pushN nA) TT MM C) {i : Nat} {d : DOp} (hd : ds[i]? = some d) (hn : ¬ Hvy ds C i) (ok : DOK P ops ds nA) :
    (MM (i + 1)).top = (MM i).top ∧ ∀ x, ¬ IsSlot ds s.m.top x i → (MM (i + 1)).look x = (MM i).look x := by
  obtain ⟨dn, hw, _⟩ := way_of can hd
  rw [can.mm i d hd]
  have hn' : ¬ (d.kd = 2 ∧ (C i).ran = true) := fun h => hn ⟨d, hd, h.1, h.2⟩
  generalize hc : C i = c at hw hn'
  cases hw with
  | skip => exact ⟨rfl, fun _ _ => rfl⟩
  | pure => exact ⟨rfl, fun _ _ => rfl⟩
  | read => exact ⟨rfl, fun _ _ => rfl⟩
  | heavy v m' h1 h2 he hr => exact absurd ⟨h2, rfl⟩ hn'
  | new v b h1 h2 he =>
    refine ⟨Mem.top_put _ _ _, fun x hx => ?_⟩
    show ((MM i).put (s.m.top + d.rk) (some b)).look x = _
    have ht := can_top can i (by have := get_lt hd; omega)
    have := ok.kd3 i d hd h2
    rw [Mem.look_put _ _ _ _ (by omega), if_neg (fun e => hx ⟨d, hd, h2, e.symm⟩)]

theorem step_heavy (can : Can orc mt s.m.top ds s.T (s.m.pushN nA) TT MM C) (ok : DOK P ops ds nA) {i a : Nat} {d e : DOp} (hd : ds[i]? = some d) (hn : Hvy ds C i) (ha : ds[a]? = some e) (h3 : e.kd = 3) (hanc : a ∉ d.anc) :
    (MM (i + 1)).look (s.m.top + e.rk) = (MM i).look (s.m.top + e.rk) := by
  obtain ⟨dn, hw, _⟩ := way_of can hd
  obtain ⟨d', hd', hk2, hran⟩ := hn
  rw [hd] at hd'; cases hd'
  rw [can.mm i d hd]
  generalize hc : C i = c at hw hran
  cases hw with
  | skip => simp at hran
  | pure v h1 h2 => omega
  | read v h1 h2 => omega
  | new v b h1 h2 => omega
  | heavy v m' h1 h2 he hr =>
    show (m'.rest (MM i) s.m.top d.msk).look _ = _
    have htop := evK_top he
    rw [Mem.top_mask] at htop
    rw [Mem.look_rest _ _ _ _ _ (fun r hr => by have := msk_lt ok can hd (j := i) (by have := get_lt hd; omega) r hr; omega)]
    rw [if_pos ⟨e.rk, (ok.msk i d hd _).2 ⟨a, e, ha, h3, hanc, rfl⟩, rfl⟩]

theorem slot_unique (ok : DOK P ops ds nA) {base x a b : Nat} (h1 : IsSlot ds base x a) (h2 : IsSlot ds base x b) : a = b := by
  obtain ⟨d, hd, hk, rfl⟩ := h1
  obtain ⟨e, he, hk', hx⟩ := h2
  exact ok.inj a b d e hd he hk hk' (by omega)

/-- Ahead of its operation a new place is not there. -/
theorem slot_none (can : Can orc mt s.m.top ds s.T (s.m.pushN nA) TT MM C) (ok : DOK P ops ds nA) {a : Nat} {e : DOp} (ha : ds[a]? = some e) (h3 : e.kd = 3) : ∀ i, i ≤ a → (MM i).look (s.m.top + e.rk) = none
  | 0, _ => by
    rw [can.m0, Mem.look_pushN]
    cases h : s.m.look (s.m.top + e.rk) with
    | none => rfl
    | some k => have := s.m.look_lt h; omega
  | i + 1, h => by
    have ih := slot_none can ok ha h3 i (by omega)
    obtain ⟨d, hd⟩ := get_some (l := ds) (i := i) (by have := get_lt ha; omega)
    by_cases hh : Hvy ds C i
    · obtain ⟨o, hoi⟩ : ∃ o, ops[i]? = some o := by
        have hi := get_lt hd
        have := ok.size
        exact ⟨ops[i]'(by omega), by simp⟩
      rw [step_heavy can ok hd hh ha h3 (fun hm => by have := (ok.anc i d o hd hoi a hm).1; omega)]
      exact ih
    · rw [(step_light can hd hh ok).2 _ (fun hs => by have := slot_unique ok hs ⟨e, ha, h3, rfl⟩; omega)]
      exact ih

/-- A new place keeps what it held, where no heavy operation may touch it. -/
theorem slot_keep (can : Can orc mt s.m.top ds s.T (s.m.pushN nA) TT MM C) (ok : DOK P ops ds nA) {a : Nat} {e : DOp} (ha : ds[a]? = some e) (h3 : e.kd = 3) : ∀ c b, a < b → b ≤ c → c ≤ ds.length →
    (∀ h d, b ≤ h → h < c → Hvy ds C h → ds[h]? = some d → a ∉ d.anc) → (MM c).look (s.m.top + e.rk) = (MM b).look (s.m.top + e.rk)
  | 0, b, h, h', _, _ => by omega
  | c + 1, b, h, hc, hl, hh => by
    rcases Nat.lt_or_ge b (c + 1) with hlt | hge
    · have ih := slot_keep can ok ha h3 c b h (by omega) (by omega) (fun h' d q1 q2 => hh h' d q1 (by omega))
      obtain ⟨d, hd⟩ := get_some (l := ds) (i := c) (by omega)
      by_cases hv : Hvy ds C c
      · rw [step_heavy can ok hd hv ha h3 (hh c d (by omega) (by omega) hv hd)]
        exact ih
      · rw [(step_light can hd hv ok).2 _ (fun hs => by have := slot_unique ok hs ⟨e, ha, h3, rfl⟩; omega)]
        exact ih
    · obtain rfl : b = c + 1 := by omega
      rfl

/-- Between heavy operations the memory stays, but for the new places. -/
theorem quiet_keep (can : Can orc mt s.m.top ds s.T (s.m.pushN nA) TT MM C) (ok : DOK P ops ds nA) : ∀ c b, b ≤ c → c ≤ ds.length → (∀ h, b ≤ h → h < c → ¬ Hvy ds C h) →
    (MM c).top = (MM b).top ∧ ∀ x, (∀ a, b ≤ a → a < c → ¬ IsSlot ds s.m.top x a) → (MM c).look x = (MM b).look x
  | 0, b, h, _, _ => by
    obtain rfl : b = 0 := by omega
    exact ⟨rfl, fun _ _ => rfl⟩
  | c + 1, b, h, hl, hh => by
    rcases Nat.lt_or_ge b (c + 1) with hlt | hge
    · have ih := quiet_keep can ok c b (by omega) (by omega) (fun h' q1 q2 => hh h' q1 (by omega))
      obtain ⟨d, hd⟩ := get_some (l := ds) (i := c) (by omega)
      have st := step_light can hd (hh c (by omega) (by omega)) ok
      exact ⟨st.1.trans ih.1, fun x hx => (st.2 x (hx c (by omega) (by omega))).trans (ih.2 x fun a q1 q2 => hx a q1 (by omega))⟩
    · obtain rfl : b = c + 1 := by omega
      exact ⟨rfl, fun _ _ => rfl⟩

/-- The slots of the frame, in the order of the text. -/
theorem can_TT (can : Can orc mt s.m.top ds s.T (s.m.pushN nA) TT MM C) (ok : DOK P ops ds nA) : ∀ i, i ≤ ds.length → (TT i).length = s.T.length ∧
    (∀ t, (∀ j d, j < i → ds[j]? = some d → d.io.dst ≠ some t) → (TT i)[t]? = s.T[t]?) ∧
    ∀ j d t, j < i → ds[j]? = some d → d.io.dst = some t → (TT i)[t]? = if t < s.T.length then some (C j).v else none
  | 0, _ => by rw [can.t0]; exact ⟨rfl, fun _ _ => rfl, fun j d t h => by omega⟩
  | i + 1, h => by
    obtain ⟨h1, h2, h3⟩ := can_TT can ok i (by omega)
    obtain ⟨d, hd⟩ := get_some (l := ds) (i := i) (by omega)
    rw [can.tt i d hd]
    cases hdst : d.io.dst with
    | none =>
      simp only [putT]
      refine ⟨h1, fun t ht => h2 t fun j e hj he => ht j e (by omega) he, fun j e t hj he ht => ?_⟩
      rcases Nat.lt_or_ge j i with hji | hji
      · exact h3 j e t hji he ht
      · obtain rfl : j = i := by omega
        rw [hd] at he; cases he
        rw [hdst] at ht; cases ht
    | some u =>
      simp only [putT]
      refine ⟨by simp [h1], fun t ht => ?_, fun j e t hj he ht => ?_⟩
      · have hne : u ≠ t := fun e => ht i d (by omega) hd (by rw [hdst, e])
        rw [List.getElem?_set_ne hne]
        exact h2 t fun j e hj he => ht j e (by omega) he
      · rcases Nat.lt_or_ge j i with hji | hji
        · have hne : u ≠ t := fun e' => ok.dst i j d e u hd he (by omega) hdst (by rw [ht, e'])
          rw [List.getElem?_set_ne hne]
          exact h3 j e t hji he ht
        · obtain rfl : j = i := by omega
          rw [hd] at he; cases he
          rw [hdst] at ht; cases ht
          rw [List.getElem?_set_self', ← h1]
          by_cases hu : u < (TT j).length
          · simp [hu]
          · simp [hu]

open Classical in
/-- The memory when the operations S have run, and no heavy one from b on. -/
noncomputable def absLook (ds : List DOp) (base : Nat) (MM : Nat → Mem) (S : Nat → Prop) (b x : Nat) : Option Blk :=
  if h : ∃ a, IsSlot ds base x a then (if S h.choose then (if h.choose < b then (MM b).look x else (MM (h.choose + 1)).look x) else none) else (MM b).look x
noncomputable def Abs (ds : List DOp) (base : Nat) (MM : Nat → Mem) (S : Nat → Prop) (b : Nat) : Hv := ⟨(MM b).top, absLook ds base MM S b⟩

open Classical in
theorem absLook_slot (ok : DOK P ops ds nA) {base x a b : Nat} {S : Nat → Prop} (h : IsSlot ds base x a) : absLook ds base MM S b x = if S a then (if a < b then (MM b).look x else (MM (a + 1)).look x) else none := by
  have hex : ∃ a, IsSlot ds base x a := ⟨a, h⟩
  have e : hex.choose = a := slot_unique ok hex.choose_spec h
  unfold absLook
  rw [dif_pos hex, e]
theorem absLook_non {base x b : Nat} {S : Nat → Prop} (h : ¬ ∃ a, IsSlot ds base x a) : absLook ds base MM S b x = (MM b).look x := by
  unfold absLook
  rw [dif_neg h]

/-- What holds when the operations S have run. -/
structure Inv (ds : List DOp) (s : St) (TT : Nat → List AV) (MM : Nat → Mem) (C : Nat → Rec) (ι : Emb) (w0 : World) (a0 : Act) (S : Nat → Prop) (b : Nat) (κ : Emb) (a : Act) (w : World) : Prop where
  bN : b ≤ ds.length
  hv : ∀ i, Hvy ds C i → (S i ↔ i < b)
  bH : b < ds.length → Hvy ds C b
  dc : ∀ (i : Nat) (d : DOp), ds[i]? = some d → S i → ∀ q ∈ d.anc, S q
  hr : HR κ (Abs ds s.m.top MM S b) w
  ext : Ext ι s.m.hv w0 κ (Abs ds s.m.top MM S b) w
  pend : ∀ (i : Nat) (d : DOp), ds[i]? = some d → d.kd = 3 → ¬ S i → (κ (s.m.top + d.rk)).ok = false
  tmps : ∃ TS, TR κ (MM b).top TS a.tmps ∧ TS.length = s.T.length ∧ (∀ t, (∀ (i : Nat) (d : DOp), ds[i]? = some d → S i → d.io.dst ≠ some t) → TS[t]? = s.T[t]?) ∧
    ∀ (i : Nat) (d : DOp) (t : Nat), ds[i]? = some d → S i → d.io.dst = some t → TS[t]? = if t < s.T.length then some (C i).v else none
  dfs : a.defers = a0.defers

/-- The masked memory is a part of what holds. -/
theorem mask_less (can : Can orc mt s.m.top ds s.T (s.m.pushN nA) TT MM C) (ok : DOK P ops ds nA) {S : Nat → Prop} {b i : Nat} {d : DOp} (hb : b ≤ ds.length) (hd : ds[i]? = some d) (hS : ∀ q ∈ d.anc, S q) {κ : Emb} {w : World}
    (hr : HR κ (Abs ds s.m.top MM S b) w) : HR κ ((MM b).mask s.m.top d.msk).hv w ∧ ∀ x k, ((MM b).mask s.m.top d.msk).look x = some k → absLook ds s.m.top MM S b x = some k := by
  have key : ∀ x k, ((MM b).mask s.m.top d.msk).look x = some k → absLook ds s.m.top MM S b x = some k := by
    intro x k hx
    rw [Mem.look_mask _ _ _ _ (msk_lt ok can hd hb)] at hx
    by_cases hm : ∃ r ∈ d.msk, x = s.m.top + r
    · rw [if_pos hm] at hx; cases hx
    · rw [if_neg hm] at hx
      by_cases hs : ∃ a, IsSlot ds s.m.top x a
      · obtain ⟨a, ha⟩ := hs
        rw [absLook_slot ok ha]
        obtain ⟨e, he, h3, rfl⟩ := ha
        have hanc : a ∈ d.anc := by
          apply Classical.byContradiction
          intro hna
          exact hm ⟨e.rk, (ok.msk i d hd _).2 ⟨a, e, he, h3, hna, rfl⟩, rfl⟩
        rw [if_pos (hS a hanc)]
        by_cases hab : a < b
        · rw [if_pos hab]; exact hx
        · rw [slot_none can ok he h3 b (by omega)] at hx; cases hx
      · rw [absLook_non hs]; exact hx
  exact ⟨hr.less (by show ((MM b).mask s.m.top d.msk).top = (MM b).top; rw [Mem.top_mask]) key, key⟩

/-- The slots that an operation looks at hold what they held in the order of the text. -/
theorem names_same (can : Can orc mt s.m.top ds s.T (s.m.pushN nA) TT MM C) (ok : DOK P ops ds nA) {S : Nat → Prop} (hdc : ∀ (i : Nat) (d : DOp), ds[i]? = some d → S i → ∀ q ∈ d.anc, S q) {i : Nat} {d : DOp} (hd : ds[i]? = some d) (hi : ¬ S i) (hS : ∀ q ∈ d.anc, S q) {TS : List AV}
    (h1 : ∀ t, (∀ (i : Nat) (d : DOp), ds[i]? = some d → S i → d.io.dst ≠ some t) → TS[t]? = s.T[t]?)
    (h2 : ∀ (i : Nat) (d : DOp) (t : Nat), ds[i]? = some d → S i → d.io.dst = some t → TS[t]? = if t < s.T.length then some (C i).v else none) : ∀ t ∈ namesOf d, TS[t]? = (TT i)[t]? := by
  intro t ht
  obtain ⟨_, g1, g2⟩ := can_TT can ok i (by have := get_lt hd; omega)
  by_cases hex : ∃ (j : Nat) (e : DOp), ds[j]? = some e ∧ e.io.dst = some t
  · obtain ⟨j, e, he, hdst⟩ := hex
    have only : ∀ (j' : Nat) (e' : DOp), ds[j']? = some e' → e'.io.dst = some t → j' = j := fun j' e' he' hdst' => by
      apply Classical.byContradiction
      intro hne
      exact ok.dst j' j e' e t he' he hne hdst' hdst
    rcases Nat.lt_trichotomy j i with hji | rfl | hji
    · have hSj := hS j (ok.names j i e d t he hd hji (.inr ⟨hdst, ht⟩))
      rw [h2 j e t he hSj hdst, g2 j e t hji he hdst]
    · rw [h1 t (fun j' e' he' hs hdst' => by rw [only j' e' he' hdst'] at hs; exact hi hs), g1 t (fun j' e' hj' he' hdst' => by have := only j' e' he' hdst'; omega)]
    · have hnS : ¬ S j := fun hs => hi (hdc j e he hs i (ok.names i j d e t hd he hji (.inl ⟨hdst, ht⟩)))
      rw [h1 t (fun j' e' he' hs hdst' => by rw [only j' e' he' hdst'] at hs; exact hnS hs), g1 t (fun j' e' hj' he' hdst' => by have := only j' e' he' hdst'; omega)]
  · rw [h1 t (fun j' e' he' _ hdst' => hex ⟨j', e', he', hdst'⟩), g1 t (fun j' e' _ he' hdst' => hex ⟨j', e', he', hdst'⟩)]

theorem opds_same {d : DOp} {T T' : List AV} (h : ∀ t ∈ namesOf d, T[t]? = T'[t]?) : ∀ x ∈ d.io.k.opds, x.ev T = x.ev T' := by
  intro x hx
  cases x with
  | c v => rfl
  | t n =>
    simp only [Opd.ev]
    rw [h n (by
      unfold namesOf
      simp only [List.mem_append, List.mem_filterMap]
      exact .inr (.inr ⟨.t n, hx, rfl⟩))]
theorem gd_same {d : DOp} {T T' : List AV} (h : ∀ t ∈ namesOf d, T[t]? = T'[t]?) : gd T d.io.g = gd T' d.io.g := by
  cases hg : d.io.g with
  | none => rfl
  | some q =>
    obtain ⟨t, b⟩ := q
    simp only [gd]
    rw [h t (by unfold namesOf; simp [hg])]

end
end Go.Em
