/- The abstract machine: a region whose order is open. The check, and what the computation has found. -/
import Derived.Test.YtokhjbkkpbceeaaGreatDoorEo
namespace Go.Em
open Go
set_option linter.unusedSimpArgs false
set_option linter.unusedVariables false

def edgesOf (o : Oper) : List Nat := (o.after.toList.filter (Region.binds .any)).map (·.on)
def namesOf (d : DOp) : List Nat := d.io.dst.toList ++ ((match d.io.g with | some (t, _) => [t] | none => []) ++ d.io.k.opds.filterMap fun | .t n => some n | .c _ => none)
def natsEq : List Nat → List Nat → Bool
  | [], [] => true
  | x :: xs, y :: ys => Nat.beq x y && natsEq xs ys
  | _, _ => false
theorem natsEq_spec : ∀ {x y : List Nat}, natsEq x y = true → x = y
  | [], [], _ => rfl
  | a :: x, b :: y, h => by simp only [natsEq, Bool.and_eq_true, Nat.beq_eq] at h; rw [h.1, natsEq_spec h.2]
  | [], _ :: _, h => by simp [natsEq] at h
  | _ :: _, [], h => by simp [natsEq] at h
def mskOf (anc : List Nat) : Nat → List DOp → List Nat
  | _, [] => []
  | i, d :: r => bif Nat.beq d.kd 3 && !memb i anc then d.rk :: mskOf anc (i + 1) r else mskOf anc (i + 1) r
theorem mem_mskOf {anc : List Nat} : ∀ (ds : List DOp) (i r : Nat), r ∈ mskOf anc i ds ↔ ∃ (j : Nat) (e : DOp), ds[j]? = some e ∧ e.kd = 3 ∧ i + j ∉ anc ∧ e.rk = r
  | [], i, r => by simp [mskOf]
  | d :: ds, i, r => by
    have ih := mem_mskOf (anc := anc) ds (i + 1) r
    have split : (∃ (j : Nat) (e : DOp), (d :: ds)[j]? = some e ∧ e.kd = 3 ∧ i + j ∉ anc ∧ e.rk = r) ↔ (d.kd = 3 ∧ i ∉ anc ∧ d.rk = r) ∨ ∃ (j : Nat) (e : DOp), ds[j]? = some e ∧ e.kd = 3 ∧ i + 1 + j ∉ anc ∧ e.rk = r := by
      constructor
      · rintro ⟨j, e, h1, h2, h3, h4⟩
        cases j with
        | zero => simp at h1; subst h1; exact .inl ⟨h2, by simpa using h3, h4⟩
        | succ j => exact .inr ⟨j, e, by simpa using h1, h2, by rwa [show i + 1 + j = i + (j + 1) by omega], h4⟩
      · rintro (⟨h1, h2, h3⟩ | ⟨j, e, h1, h2, h3, h4⟩)
        · exact ⟨0, d, rfl, h1, by simpa using h2, h3⟩
        · exact ⟨j + 1, e, by simpa using h1, h2, by rwa [show i + (j + 1) = i + 1 + j by omega], h4⟩
    rw [split, ← ih]
    simp only [mskOf]
    cases hc : (Nat.beq d.kd 3 && !memb i anc) with
    | true =>
      simp only [Bool.and_eq_true, Nat.beq_eq, Bool.not_eq_true'] at hc
      have : i ∉ anc := by intro h; have := memb_spec.2 h; simp_all
      simp only [cond_true, List.mem_cons]
      constructor
      · rintro (rfl | h)
        · exact .inl ⟨hc.1, this, rfl⟩
        · exact .inr h
      · rintro (⟨_, _, rfl⟩ | h)
        · exact .inl rfl
        · exact .inr h
    | false =>
      simp only [cond_false]
      constructor
      · exact .inr
      · rintro (⟨h1, h2, h3⟩ | h)
        · exfalso
          have : memb i anc = false := by rw [← Bool.not_eq_true, memb_spec]; exact h2
          simp [h1, this] at hc
        · exact h

def isAllocK : IK → Bool
  | .new .. | .box .. | .buildS .. => true
  | _ => false

/-- One operation of the region: its kind, what comes ahead of it. -/
def chkD1 (P : Program) (ops : Array Oper) (ds : List DOp) (nA i : Nat) (d : DOp) : Bool :=
  (match ops[i]? with
   | some o => (edgesOf o).all (Nat.blt · i) && (chkOp P ops o d.io && d.anc.all fun a => Nat.blt a i && (memb a (edgesOf o) || (edgesOf o).any fun e => match ds[e]? with | some de => memb a de.anc | none => false))
   | none => false) &&
  natsEq d.msk (mskOf d.anc 0 ds) &&
  (match d.kd with
   | 0 => isPure d.io.k
   | 1 => isRead d.io.k
   | 2 => true
   | 3 => isAllocK d.io.k && Nat.blt d.rk nA
   | _ => false)
/-- Two operations: which slots they share, and in which order they must come. -/
def chkD2 (i j : Nat) (d e : DOp) : Bool :=
  (!(Nat.beq d.kd 3 && Nat.beq e.kd 3 && Nat.beq d.rk e.rk)) &&
  (!(Nat.beq d.kd 2 && Nat.beq e.kd 2) || memb i e.anc) &&
  (match e.io.dst with | some t => !memb t (namesOf d) || memb i e.anc | none => true) &&
  (match d.io.dst with | some t => !memb t (namesOf e) || memb i e.anc | none => true) &&
  (match d.io.dst, e.io.dst with | some t, some u => !Nat.beq t u | _, _ => true)
def chkD2s (i : Nat) (d : DOp) : Nat → List DOp → Bool
  | _, [] => true
  | j, e :: r => chkD2 i j d e && chkD2s i d (j + 1) r
def chkDs (P : Program) (ops : Array Oper) (all : List DOp) (nA : Nat) : Nat → List DOp → Bool
  | _, [] => true
  | i, d :: r => chkD1 P ops all nA i d && (chkD2s i d (i + 1) r && chkDs P ops all nA (i + 1) r)
def chkDreg (P : Program) (ops : Array Oper) (ds : List DOp) (nA : Nat) : Bool := Nat.beq ds.length ops.size && chkDs P ops ds nA 0 ds

structure DOK (P : Program) (ops : Array Oper) (ds : List DOp) (nA : Nat) : Prop where
  size : ds.length = ops.size
  op : ∀ (i : Nat) (d : DOp) (o : Oper), ds[i]? = some d → ops[i]? = some o → chkOp P ops o d.io = true
  edge : ∀ (i : Nat) (d : DOp) (o : Oper), ds[i]? = some d → ops[i]? = some o → ∀ e ∈ edgesOf o, e < i
  anc : ∀ (i : Nat) (d : DOp) (o : Oper), ds[i]? = some d → ops[i]? = some o → ∀ a ∈ d.anc, a < i ∧ (a ∈ edgesOf o ∨ ∃ (e : Nat) (de : DOp), e ∈ edgesOf o ∧ ds[e]? = some de ∧ a ∈ de.anc)
  msk : ∀ (i : Nat) (d : DOp), ds[i]? = some d → ∀ r, r ∈ d.msk ↔ ∃ (j : Nat) (e : DOp), ds[j]? = some e ∧ e.kd = 3 ∧ j ∉ d.anc ∧ e.rk = r
  kd0 : ∀ (i : Nat) (d : DOp), ds[i]? = some d → d.kd = 0 → isPure d.io.k = true
  kd1 : ∀ (i : Nat) (d : DOp), ds[i]? = some d → d.kd = 1 → isRead d.io.k = true
  kd3 : ∀ (i : Nat) (d : DOp), ds[i]? = some d → d.kd = 3 → d.rk < nA
  inj : ∀ (i j : Nat) (d e : DOp), ds[i]? = some d → ds[j]? = some e → d.kd = 3 → e.kd = 3 → d.rk = e.rk → i = j
  heavy : ∀ (i j : Nat) (d e : DOp), ds[i]? = some d → ds[j]? = some e → d.kd = 2 → e.kd = 2 → i < j → i ∈ e.anc
  names : ∀ (i j : Nat) (d e : DOp) (t : Nat), ds[i]? = some d → ds[j]? = some e → i < j → ((e.io.dst = some t ∧ t ∈ namesOf d) ∨ (d.io.dst = some t ∧ t ∈ namesOf e)) → i ∈ e.anc
  dst : ∀ (i j : Nat) (d e : DOp) (t : Nat), ds[i]? = some d → ds[j]? = some e → i ≠ j → d.io.dst = some t → e.io.dst ≠ some t

theorem chkD2s_spec {i : Nat} {d : DOp} : ∀ (r : List DOp) (j : Nat), chkD2s i d j r = true → ∀ (k : Nat) (e : DOp), r[k]? = some e → chkD2 i (j + k) d e = true
  | [], j, _, k, e, h => by simp at h
  | x :: r, j, hc, k, e, h => by
    simp only [chkD2s, Bool.and_eq_true] at hc
    cases k with
    | zero => simp at h; subst h; exact hc.1
    | succ k =>
      have := chkD2s_spec r (j + 1) hc.2 k e (by simpa using h)
      rwa [show j + 1 + k = j + (k + 1) by omega] at this
theorem chkDs_spec {P : Program} {ops : Array Oper} {all : List DOp} {nA : Nat} : ∀ (r : List DOp) (i : Nat), chkDs P ops all nA i r = true →
    (∀ (k : Nat) (d : DOp), r[k]? = some d → chkD1 P ops all nA (i + k) d = true) ∧ ∀ (k l : Nat) (d e : DOp), k < l → r[k]? = some d → r[l]? = some e → chkD2 (i + k) (i + l) d e = true
  | [], i, _ => ⟨fun k d h => by simp at h, fun k l d e _ h => by simp at h⟩
  | x :: r, i, hc => by
    simp only [chkDs, Bool.and_eq_true] at hc
    have ih := chkDs_spec r (i + 1) hc.2.2
    constructor
    · intro k d h
      cases k with
      | zero => simp at h; subst h; exact hc.1
      | succ k =>
        have := ih.1 k d (by simpa using h)
        rwa [show i + 1 + k = i + (k + 1) by omega] at this
    · intro k l d e hkl hk hl
      cases l with
      | zero => omega
      | succ l =>
        cases k with
        | zero =>
          simp at hk; subst hk
          have := chkD2s_spec r (i + 1) hc.2.1 l e (by simpa using hl)
          rwa [show i + 1 + l = i + (l + 1) by omega] at this
        | succ k =>
          have := ih.2 k l d e (by omega) (by simpa using hk) (by simpa using hl)
          rwa [show i + 1 + k = i + (k + 1) by omega, show i + 1 + l = i + (l + 1) by omega] at this

theorem chkDreg_spec {P : Program} {ops : Array Oper} {ds : List DOp} {nA : Nat} (h : chkDreg P ops ds nA = true) : DOK P ops ds nA := by
  simp only [chkDreg, Bool.and_eq_true, Nat.beq_eq] at h
  obtain ⟨hs, h⟩ := h
  obtain ⟨h1, h2⟩ := chkDs_spec ds 0 h
  simp only [Nat.zero_add] at h1 h2
  have one : ∀ (i : Nat) (d : DOp) (o : Oper), ds[i]? = some d → ops[i]? = some o → (∀ e ∈ edgesOf o, e < i) ∧ chkOp P ops o d.io = true ∧ ∀ a ∈ d.anc, a < i ∧ (a ∈ edgesOf o ∨ ∃ (e : Nat) (de : DOp), e ∈ edgesOf o ∧ ds[e]? = some de ∧ a ∈ de.anc) := fun i d o hd ho => by
    have := h1 i d hd
    simp only [chkD1, ho, Bool.and_eq_true, List.all_eq_true] at this
    refine ⟨fun e he => by simpa [Nat.blt_eq] using this.1.1.1 e he, this.1.1.2.1, fun a ha => ?_⟩
    have q := this.1.1.2.2 a ha
    simp only [Bool.or_eq_true, Nat.blt_eq, List.any_eq_true] at q
    refine ⟨q.1, ?_⟩
    rcases q.2 with h | ⟨e, he, h⟩
    · exact .inl (memb_spec.1 h)
    · cases hde : ds[e]? with
      | none => simp [hde] at h
      | some de => simp only [hde] at h; exact .inr ⟨e, de, he, hde, memb_spec.1 h⟩
  have two : ∀ (i j : Nat) (d e : DOp), i < j → ds[i]? = some d → ds[j]? = some e → (¬ (d.kd = 3 ∧ e.kd = 3 ∧ d.rk = e.rk)) ∧ (d.kd = 2 → e.kd = 2 → i ∈ e.anc) ∧ (∀ t, e.io.dst = some t → t ∈ namesOf d → i ∈ e.anc) ∧
      (∀ t, d.io.dst = some t → t ∈ namesOf e → i ∈ e.anc) ∧ ∀ t, d.io.dst = some t → e.io.dst ≠ some t := fun i j d e hij hd he => by
    have q := h2 i j d e hij hd he
    simp only [chkD2, Bool.and_eq_true, Bool.or_eq_true, Bool.not_eq_true'] at q
    obtain ⟨⟨⟨⟨q1, q2⟩, q3⟩, q4⟩, q5⟩ := q
    refine ⟨fun ⟨a1, a2, a3⟩ => by simp [a1, a2, a3] at q1, fun a1 a2 => ?_, fun t ht hn => ?_, fun t ht hn => ?_, fun t ht hu => ?_⟩
    · rcases q2 with h | h
      · simp [a1, a2] at h
      · exact memb_spec.1 h
    · simp only [ht, Bool.or_eq_true, Bool.not_eq_true'] at q3
      rcases q3 with h | h
      · rw [memb_spec.2 hn] at h; cases h
      · exact memb_spec.1 h
    · simp only [ht, Bool.or_eq_true, Bool.not_eq_true'] at q4
      rcases q4 with h | h
      · rw [memb_spec.2 hn] at h; cases h
      · exact memb_spec.1 h
    · simp [ht, hu] at q5
  have kinds : ∀ (i : Nat) (d : DOp), ds[i]? = some d → (match d.kd with | 0 => isPure d.io.k | 1 => isRead d.io.k | 2 => true | 3 => isAllocK d.io.k && Nat.blt d.rk nA | _ => false) = true := fun i d hd => by
    have := h1 i d hd
    simp only [chkD1, Bool.and_eq_true] at this
    exact this.2
  refine ⟨hs, fun i d o hd ho => (one i d o hd ho).2.1, fun i d o hd ho => (one i d o hd ho).1, fun i d o hd ho => (one i d o hd ho).2.2, fun i d hd r => ?_, fun i d hd hk => ?_, fun i d hd hk => ?_, fun i d hd hk => ?_, fun i j d e hd he h3 h4 hr => ?_, fun i j d e hd he h3 h4 hij => (two i j d e hij hd he).2.1 h3 h4,
    fun i j d e t hd he hij hor => ?_, fun i j d e t hd he hne ht => ?_⟩
  · have := h1 i d hd
    simp only [chkD1, Bool.and_eq_true] at this
    rw [natsEq_spec this.1.2, mem_mskOf]
    simp
  · have := kinds i d hd; rw [hk] at this; exact this
  · have := kinds i d hd; rw [hk] at this; exact this
  · have := kinds i d hd; rw [hk] at this; simp only [Bool.and_eq_true, Nat.blt_eq] at this; exact this.2
  · rcases Nat.lt_trichotomy i j with h | h | h
    · exact absurd ⟨h3, h4, hr⟩ (two i j d e h hd he).1
    · exact h
    · exact absurd ⟨h4, h3, hr.symm⟩ (two j i e d h he hd).1
  · rcases hor with ⟨ht, hn⟩ | ⟨ht, hn⟩
    · exact (two i j d e hij hd he).2.2.1 t ht hn
    · exact (two i j d e hij hd he).2.2.2.1 t ht hn
  · rcases Nat.lt_trichotomy i j with h | h | h
    · exact (two i j d e h hd he).2.2.2.2 t ht
    · exact absurd h hne
    · exact fun hu => (two j i e d h he hd).2.2.2.2 t hu ht

/-- What the computation has found, operation by operation. -/
structure Can (orc : Orc) (mt : Meth) (base : Nat) (ds : List DOp) (T0 : List AV) (M0 : Mem) (TT : Nat → List AV) (MM : Nat → Mem) (C : Nat → Rec) : Prop where
  t0 : TT 0 = T0
  m0 : MM 0 = M0
  tt : ∀ (i : Nat) (d : DOp), ds[i]? = some d → TT (i + 1) = putT (TT i) d.io.dst (C i).v
  mm : ∀ (i : Nat) (d : DOp), ds[i]? = some d → MM (i + 1) = (C i).post
  c : ∀ (i : Nat) (d : DOp), ds[i]? = some d → ∃ dn, evD1 orc mt base dn d (TT i) (MM i) = some (C i) ∧ ∀ (q : Nat) (e : DOp), q < i → ds[q]? = some e → (q, e, C q) ∈ dn

theorem evD_can {orc : Orc} {mt : Meth} {base : Nat} : ∀ (ds : List DOp) (i : Nat) (done : Done) (T : List AV) (M : Mem) (T' : List AV) (M' : Mem), evD orc mt base ds i done T M = some (T', M') →
    ∃ (TT : Nat → List AV) (MM : Nat → Mem) (C : Nat → Rec), TT 0 = T ∧ MM 0 = M ∧ TT ds.length = T' ∧ MM ds.length = M' ∧ (∀ (k : Nat) (d : DOp), ds[k]? = some d → TT (k + 1) = putT (TT k) d.io.dst (C k).v ∧ MM (k + 1) = (C k).post ∧
      ∃ dn, evD1 orc mt base dn d (TT k) (MM k) = some (C k) ∧ (∀ x ∈ done, x ∈ dn) ∧ ∀ (q : Nat) (e : DOp), q < k → ds[q]? = some e → (i + q, e, C q) ∈ dn)
  | [], i, done, T, M, T', M', h => by
    simp only [evD, Option.some.injEq, Prod.mk.injEq] at h
    obtain ⟨rfl, rfl⟩ := h
    exact ⟨fun _ => T, fun _ => M, fun _ => ⟨.u, false, T, M, M⟩, rfl, rfl, rfl, rfl, fun k d h => by simp at h⟩
  | d :: r, i, done, T, M, T', M', h => by
    simp only [evD] at h
    cases hc : evD1 orc mt base done d T M with
    | none => simp [hc] at h
    | some c =>
      simp only [hc] at h
      obtain ⟨TT, MM, C, h1, h2, h3, h4, h5⟩ := evD_can r (i + 1) _ _ _ T' M' h
      refine ⟨fun k => match k with | 0 => T | k + 1 => TT k, fun k => match k with | 0 => M | k + 1 => MM k, fun k => match k with | 0 => c | k + 1 => C k, rfl, rfl, h3, h4, fun k d' hk => ?_⟩
      cases k with
      | zero =>
        simp at hk; subst hk
        exact ⟨h1, h2, done, hc, fun x hx => hx, fun q e hq => by omega⟩
      | succ k =>
        obtain ⟨g1, g2, dn, g3, g4, g5⟩ := h5 k d' (by simpa using hk)
        refine ⟨g1, g2, dn, g3, fun x hx => g4 x (by simp [hx]), fun q e hq he => ?_⟩
        cases q with
        | zero => simp at he; subst he; exact g4 _ (by simp)
        | succ q =>
          have := g5 q e (by omega) (by simpa using he)
          rwa [show i + 1 + q = i + (q + 1) by omega] at this

theorem evReg_can {orc : Orc} {mt : Meth} {nA : Nat} {ds : List DOp} {s s' : St} (h : evReg orc mt nA ds s = some s') :
    ∃ TT MM C, Can orc mt s.m.top ds s.T (s.m.pushN nA) TT MM C ∧ TT ds.length = s'.T ∧ MM ds.length = s'.m := by
  unfold evReg at h
  cases he : evD orc mt s.m.top ds 0 [] s.T (s.m.pushN nA) with
  | none => simp [he] at h
  | some r =>
    obtain ⟨T, M⟩ := r
    simp only [he, Option.some.injEq] at h
    subst h
    obtain ⟨TT, MM, C, h1, h2, h3, h4, h5⟩ := evD_can ds 0 [] _ _ _ _ he
    refine ⟨TT, MM, C, ⟨h1, h2, fun i d hd => (h5 i d hd).1, fun i d hd => (h5 i d hd).2.1, fun i d hd => ?_⟩, h3, h4⟩
    obtain ⟨_, _, dn, g1, _, g2⟩ := h5 i d hd
    exact ⟨dn, g1, fun q e hq he => by simpa using g2 q e hq he⟩

/-! ### What each operation did -/

section
variable {orc : Orc} {mt : Meth} {base : Nat} {dn : Done} {d : DOp} {T : List AV} {M : Mem} {c : Rec}

theorem readsOk_spec {anc : List Nat} {post : Mem} : ∀ {dn : Done}, readsOk orc mt base anc post dn = true → ∀ j e r, (j, e, r) ∈ dn → e.kd = 1 → r.ran = true → j ∉ anc → evL orc mt r.T (post.mask base e.msk) e.io.k = some r.v
  | [], _, j, e, r, h => by cases h
  | (j', e', r') :: q, hc, j, e, r, h => by
    simp only [readsOk, Bool.and_eq_true] at hc
    intro h1 h2 h3
    rcases List.mem_cons.1 h with h | h
    · cases h
      have h4 : memb j' anc = false := by rw [← Bool.not_eq_true, memb_spec]; exact h3
      simp only [h1, h2, h4, Nat.beq_refl, Bool.not_false, Bool.and_self, cond_true] at hc
      cases hv : evL orc mt r'.T (post.mask base e'.msk) e'.io.k with
      | none => simp [hv, sameV] at hc
      | some v => rw [hv] at hc; simp only [sameV] at hc; rw [AV.beq_spec _ _ hc.1]
    · exact readsOk_spec hc.2 j e r h h1 h2 h3
theorem wroteOk_spec {v : AV} : ∀ {dn : Done}, wroteOk orc mt base d T v dn = true → ∀ j e r, (j, e, r) ∈ dn → e.kd = 2 → r.ran = true → j ∉ d.anc → evL orc mt T (r.pre.mask base d.msk) d.io.k = some v
  | [], _, j, e, r, h => by cases h
  | (j', e', r') :: q, hc, j, e, r, h => by
    simp only [wroteOk, Bool.and_eq_true] at hc
    intro h1 h2 h3
    rcases List.mem_cons.1 h with h | h
    · cases h
      have h4 : memb j' d.anc = false := by rw [← Bool.not_eq_true, memb_spec]; exact h3
      simp only [h1, h2, h4, Nat.beq_refl, Bool.not_false, Bool.and_self, cond_true] at hc
      cases hv : evL orc mt T (r'.pre.mask base d.msk) d.io.k with
      | none => simp [hv, sameV] at hc
      | some v => rw [hv] at hc; simp only [sameV] at hc; rw [AV.beq_spec _ _ hc.1]
    · exact wroteOk_spec hc.2 j e r h h1 h2 h3

/-- The five ways of an operation. -/
inductive Way (orc : Orc) (mt : Meth) (base : Nat) (dn : Done) (d : DOp) (T : List AV) (M : Mem) : Rec → Prop where
  | skip (h : gd T d.io.g = some false) : Way orc mt base dn d T M ⟨.u, false, T, M, M⟩
  | pure (v : AV) (h : gd T d.io.g = some true) (hk : d.kd = 0) (m' : Mem) (he : evK orc mt T M d.io.k = some (v, m')) : Way orc mt base dn d T M ⟨v, true, T, M, M⟩
  | read (v : AV) (h : gd T d.io.g = some true) (hk : d.kd = 1) (he : evL orc mt T (M.mask base d.msk) d.io.k = some v) (hw : wroteOk orc mt base d T v dn = true) : Way orc mt base dn d T M ⟨v, true, T, M, M⟩
  | heavy (v : AV) (m' : Mem) (h : gd T d.io.g = some true) (hk : d.kd = 2) (he : evK orc mt T (M.mask base d.msk) d.io.k = some (v, m')) (hr : readsOk orc mt base d.anc (m'.rest M base d.msk) dn = true) :
      Way orc mt base dn d T M ⟨v, true, T, M, m'.rest M base d.msk⟩
  | new (v : AV) (b : Blk) (h : gd T d.io.g = some true) (hk : d.kd = 3) (he : evA T (base + d.rk) d.io.k = some (v, b)) : Way orc mt base dn d T M ⟨v, true, T, M, M.put (base + d.rk) (some b)⟩

theorem evD1_way (h : evD1 orc mt base dn d T M = some c) : Way orc mt base dn d T M c ∧ (c.ran = false → d.kd ≠ 3) := by
  unfold evD1 at h
  cases hg : gd T d.io.g with
  | none => simp [hg] at h
  | some b =>
    cases b with
    | false =>
      simp only [hg] at h
      cases h3 : Nat.beq d.kd 3 with
      | true => simp [h3] at h
      | false =>
        simp only [h3, cond_false, Option.some.injEq] at h
        subst h
        exact ⟨.skip hg, fun _ e => by rw [e] at h3; simp at h3⟩
    | true =>
      simp only [hg] at h
      split at h
      · rename_i hk
        cases he : evK orc mt T M d.io.k with
        | none => simp [he] at h
        | some r =>
          obtain ⟨v, m'⟩ := r
          simp only [he, Option.some.injEq] at h
          subst h
          exact ⟨.pure v hg hk m' he, fun h => by cases h⟩
      · rename_i hk
        cases he : evL orc mt T (M.mask base d.msk) d.io.k with
        | none => simp [he] at h
        | some v =>
          simp only [he] at h
          cases hw : wroteOk orc mt base d T v dn with
          | false => simp [hw] at h
          | true =>
            simp only [hw, cond_true, Option.some.injEq] at h
            subst h
            exact ⟨.read v hg hk he hw, fun h => by cases h⟩
      · rename_i hk
        cases he : evK orc mt T (M.mask base d.msk) d.io.k with
        | none => simp [he] at h
        | some r =>
          obtain ⟨v, m'⟩ := r
          simp only [he] at h
          cases hw : readsOk orc mt base d.anc (m'.rest M base d.msk) dn with
          | false => simp [hw] at h
          | true =>
            simp only [hw, cond_true, Option.some.injEq] at h
            subst h
            exact ⟨.heavy v m' hg hk he hw, fun h => by cases h⟩
      · rename_i hk
        cases he : evA T (base + d.rk) d.io.k with
        | none => simp [he] at h
        | some r =>
          obtain ⟨v, b⟩ := r
          simp only [he, Option.some.injEq] at h
          subst h
          exact ⟨.new v b hg hk he, fun h => by cases h⟩
      · cases h
end

/-- The memory never shrinks. -/
theorem evK_top {orc : Orc} {mt : Meth} {T : List AV} {m m' : Mem} {k : IK} {v : AV} (h : evK orc mt T m k = some (v, m')) : m.top ≤ m'.top := by
  by_cases hp : isPure k = true
  · rw [(evK_pure hp h m).1]; exact Nat.le_refl _
  by_cases hr : isRead k = true
  · rw [(evK_read hr h).1]; exact Nat.le_refl _
  have hwr : ∀ {a o : Nat} {vs : List AV} {m1 : Mem}, wr m a o vs = some m1 → m1.top = m.top := by
    intro a o vs m1 hw
    unfold wr at hw
    cases hk : m.look a with
    | none => simp [hk] at hw
    | some q =>
      simp only [hk] at hw
      generalize q.ro = b1 at hw
      generalize Nat.ble (o + vs.length) q.cells.length = b2 at hw
      generalize allOne vs = b3 at hw
      cases b1 <;> cases b2 <;> cases b3 <;> simp at hw
      rw [← hw, m.top_put]
  have hap : ∀ c : CR, m.top ≤ (m.apply c).top := fun c => by rw [Mem.apply_top]; omega
  cases k <;> simp only [isPure, isRead, not_true] at hp hr <;> simp only [evK, IK.ev] at h
  case new => simp at h; rw [← h.2, m.top_push]; omega
  case box =>
    split at h <;> (try (cases h; done))
    simp at h; rw [← h.2, m.top_push]; omega
  case buildS => simp at h; obtain ⟨_, _, h⟩ := h; rw [← h.2, m.top_push]; omega
  case st =>
    split at h <;> (try (cases h; done))
    split at h <;> (try (cases h; done))
    generalize Nat.beq _ _ = b1 at h
    cases b1 <;> simp only [cond_true, cond_false, Option.map_eq_some_iff, Prod.mk.injEq] at h <;> (try (cases h; done))
    obtain ⟨m1, h1, _, h2⟩ := h
    rw [← h2, hwr h1]; omega
  case mkS =>
    split at h <;> (try (cases h; done))
    generalize (Nat.ble _ _ && Nat.ble _ _ && Nat.ble _ _ && Nat.ble _ _) = q at h
    cases q <;> simp at h
    rw [← h.2, m.top_push]; omega
  case copy =>
    split at h <;> (try (cases h; done))
    split at h <;> (try (cases h; done))
    split at h
    · simp at h; rw [← h.2]; omega
    · generalize Nat.beq _ _ = q at h
      cases q <;> simp at h
      · split at h <;> (try (cases h; done))
        generalize Nat.beq _ _ = q at h
        cases q <;> simp only [cond_true, cond_false, Option.map_eq_some_iff, Prod.mk.injEq] at h <;> (try (cases h; done))
        obtain ⟨m1, h1, _, h2⟩ := h
        rw [← h2, hwr h1]; omega
      · rw [← h.2]; omega
  case call => simp at h; obtain ⟨c, _, h⟩ := h; rw [← h.2]; exact hap c
  case callV =>
    unfold callV at h
    split at h
    · simp at h; obtain ⟨c, _, h⟩ := h; rw [← h.2]; exact hap c
    · simp at h; obtain ⟨c, _, h⟩ := h; rw [← h.2]; exact hap c
    · split at h <;> (try (cases h; done))
      split at h <;> (try (cases h; done))
      simp at h; obtain ⟨c, _, h⟩ := h; rw [← h.2]; exact hap c
    · cases h
  case callI =>
    split at h <;> (try (cases h; done))
    split at h <;> (try (cases h; done))
    simp at h; obtain ⟨c, _, h⟩ := h; rw [← h.2]; exact hap c
  case app =>
    split at h <;> (try (cases h; done))
    split at h <;> (try (cases h; done))
    unfold appF at h
    split at h <;> (try (cases h; done))
    generalize Nat.beq _ 0 = q at h
    cases q <;> simp only [cond_true, cond_false] at h
    · generalize (Nat.ble _ _ && Nat.ble _ _ && _ && Nat.ble _ _) = q at h
      cases q <;> simp only [cond_true, cond_false] at h <;> (try (cases h; done))
      split at h
      · simp at h; rw [← h.2, m.top_push]; omega
      · split at h <;> (try (cases h; done))
        rename_i q _
        generalize q.ro = b1 at h
        cases b1 <;> simp only [cond_true, cond_false] at h <;> (try (cases h; done))
        generalize (Nat.beq _ _ && Nat.beq _ _) = q2 at h
        cases q2 <;> simp only [cond_true, cond_false] at h <;> (try (cases h; done))
        generalize Nat.ble _ _ = q3 at h
        cases q3 <;> simp only [cond_true, cond_false] at h
        · rename_i ex a0 b0 o0 h1 x0 h2
          cases ex <;> simp only [cond_true, cond_false] at h
          · generalize (Nat.beq _ _ && Nat.ble _ _) = q4 at h
            cases q4 <;> simp only [cond_true, cond_false, Option.map_eq_some_iff, Prod.mk.injEq] at h <;> (try (cases h; done))
            obtain ⟨_, _, _, h⟩ := h
            rw [← h, Mem.top_push, m.top_put]; omega
          · simp only [Option.map_eq_some_iff, Prod.mk.injEq] at h
            obtain ⟨_, _, _, h⟩ := h
            rw [← h, m.top_push]; omega
        · simp only [Option.map_eq_some_iff, Prod.mk.injEq] at h
          obtain ⟨m1, h1, _, h2⟩ := h
          rw [← h2, hwr h1]; omega
    · simp at h; rw [← h.2]; omega
  case bad => cases h

end Go.Em
