/- The abstract machine: regions in the order of the text. Which operations change the memory; on what slots an operation hangs. -/
import Derived.Test.YtokhjbkkpbceeaaGreatDoorEl
namespace Go.Em
open Go
set_option linter.unusedSimpArgs false
set_option linter.unusedVariables false

structure St where
  T : List AV
  m : Mem

def putT (T : List AV) (d : Option Nat) (v : AV) : List AV := match d with
  | some k => T.set k v
  | none => T

def gd (T : List AV) : Option (Nat × Bool) → Option Bool
  | none => some true
  | some (t, want) => match T[t]? with
    | some (.b x) => some (x == want)
    | _ => none

def evOps (orc : Orc) (mt : Meth) : List IOp → St → Option St
  | [], s => some s
  | o :: r, s => match gd s.T o.g with
    | some true => match evK orc mt s.T s.m o.k with
      | some (v, m') => evOps orc mt r ⟨putT s.T o.dst v, m'⟩
      | none => none
    | some false => evOps orc mt r ⟨putT s.T o.dst .u, s.m⟩
    | none => none

def dstOk : Option Nat → Option Tmp → Bool
  | none, none => true
  | some x, some y => Nat.beq x y
  | _, _ => false
def guardOk (ops : Array Oper) : Option (Nat × Bool) → Option (Nat × Bool) → Bool
  | none, none => true
  | some (t, b), some (j, b') => (b == b') && (match ops[j]? with | some o => dstOk (some t) o.dst | none => false)
  | _, _ => false
def chkOp (P : Program) (ops : Array Oper) (o : Oper) (io : IOp) : Bool := dstOk io.dst o.dst && guardOk ops io.g o.guard && chkC1 P o.op io.k
def chkOps (P : Program) (ops : Array Oper) : List Oper → List IOp → Bool
  | [], [] => true
  | o :: r, io :: s => chkOp P ops o io && chkOps P ops r s
  | _, _ => false

theorem dstOk_spec {x : Option Nat} {y : Option Tmp} (h : dstOk x y = true) : x = y := by
  cases x <;> cases y <;> simp [dstOk] at h <;> simp [h]

section
variable {P : Program} {orc : Orc} {mt : Meth} {ι : Emb} {m m' : Mem} {w : World} {T : List AV} {a : Act} {v : AV} {o : Oper} {rr : Option Nat} {dp : Nat} {A : Amb}

theorem TR.put {n : Nat} (ht : TR ι n T a.tmps) {cv : Value} (hv : VR ι v cv) (hb : Bd n v) (d : Option Nat) : TR ι n (putT T d v) (a.put d cv).tmps := by
  cases d with
  | none => exact ht
  | some d =>
    simp only [putT, Act.put]
    refine ⟨by simp [ht.len], fun k x y hx hy => ?_, fun x hx => ?_⟩
    · rw [List.getElem?_set] at hx
      rw [Array.getElem?_setIfInBounds] at hy
      by_cases e : d = k
      · subst e
        have hl := ht.len
        by_cases hd : d < T.length
        · rw [if_pos rfl, if_pos hd] at hx
          rw [if_pos rfl, if_pos (by omega)] at hy
          cases hx; cases hy
          exact hv
        · rw [if_pos rfl, if_neg hd] at hx; cases hx
      · rw [if_neg e] at hx hy
        exact ht.vr k x y hx hy
    · rcases List.mem_or_eq_of_mem_set hx with h | h
      · exact ht.bd x h
      · rw [h]; exact hb

theorem wanted_spec {ops : Array Oper} {n : Nat} (ht : TR ι n T a.tmps) {g : Option (Nat × Bool)} (hg : guardOk ops g o.guard = true) {b : Bool} (h : gd T g = some b) : Region.wanted o (yielded ops a.tmps) = b := by
  cases g with
  | none =>
    cases hog : o.guard with
    | none => simp [gd] at h; subst h; simp [Region.wanted, hog]
    | some q => rw [hog] at hg; simp [guardOk] at hg
  | some q =>
    obtain ⟨t, want⟩ := q
    cases hog : o.guard with
    | none => rw [hog] at hg; simp [guardOk] at hg
    | some q2 =>
      obtain ⟨j, want'⟩ := q2
      rw [hog] at hg
      simp only [guardOk, Bool.and_eq_true, beq_iff_eq] at hg
      obtain ⟨rfl, hg⟩ := hg
      cases hj : ops[j]? with
      | none => simp [hj] at hg
      | some oj =>
        simp only [hj] at hg
        have hd := dstOk_spec hg
        simp only [gd] at h
        cases hT : T[t]? with
        | none => simp [hT] at h
        | some x =>
          cases x <;> simp [hT] at h
          rename_i x
          have hk : t < T.length := (List.getElem?_eq_some_iff.1 hT).1
          have hk' : t < a.tmps.size := ht.len ▸ hk
          have hv := ht.vr t _ a.tmps[t] hT (by simp [hk'])
          generalize hy : a.tmps[t] = y at hv
          cases hv
          have hyl : yielded ops a.tmps j = some x := by
            simp [yielded, hj, ← hd, hk', hy]
          simp only [Region.wanted, hog, hyl]
          rw [← h]
          cases x <;> cases want <;> rfl

/-- What a state of the abstract machine says of the model's. -/
structure SR (A : Amb) (ι : Emb) (s : St) (a : Act) (w : World) : Prop where
  t : TR ι s.m.top s.T a.tmps
  h : HR ι s.m.hv w
  amb : A ι s.m.hv w

theorem SR.put (hA : AmbOK A) {s : St} (hs : SR A ι s a w) {d : Option Nat} {κ : Emb} {cv : Value} {w' : World} (hv : VR κ v cv) (hb : Bd m'.top v) (hm : HR κ m'.hv w') (he : Ext ι s.m.hv w κ m'.hv w') : SR A κ ⟨putT s.T d v, m'⟩ (a.put d cv) w' :=
  ⟨(hs.t.agree (fun r hr _ => he.agree r hr) he.n).put hv hb d, hm, hA.ext _ _ _ _ _ _ hs.amb hs.h he⟩

theorem put_defers (a : Act) (d : Option Nat) (v : Value) : (a.put d v).defers = a.defers := by cases d <;> rfl

theorem evOps_sound (hA : AmbOK A) (ho : OrcOK P A orc) (hmt : MethOK P mt) (ops : Array Oper) {Q : Exit → Act → World → Prop} : ∀ (os : List Oper) (ios : List IOp) (i : Nat), chkOps P ops os ios = true → ops.toList.drop i = os → ∀ (ι : Emb) (s s' : St) (a : Act) (w : World), SR A ι s a w → evOps orc mt ios s = some s' →
    (∀ κ a' w', SR A κ s' a' w' → Ext ι s.m.hv w κ s'.m.hv w' → a'.defers = a.defers → Q .normal a' w') → wpOpsIn (Fz rr) dp P ops Q (List.range' i os.length) a w
  | [], [], i, _, _, ι, s, s', a, w, hs, he, hq => by
    simp only [evOps, Option.some.injEq] at he
    subst he
    simpa [wpOpsIn] using hq ι a w hs (.refl _ _ _) rfl
  | o :: os, io :: ios, i, hc, hd, ι, s, s', a, w, hs, he, hq => by
    simp only [chkOps, chkOp, Bool.and_eq_true] at hc
    obtain ⟨⟨⟨c1, c2⟩, c3⟩, c4⟩ := hc
    have hdst := dstOk_spec c1
    have hoi : ops[i]? = some o := by
      have := congrArg (·[0]?) hd
      simpa using this
    have hd' : ops.toList.drop (i + 1) = os := by
      have := congrArg (List.drop 1) hd
      simpa [Nat.add_comm] using this
    rw [List.length_cons, List.range'_succ]
    simp only [wpOpsIn, hoi]
    simp only [evOps] at he
    cases hg : gd s.T io.g with
    | none => simp [hg] at he
    | some b =>
      have hw := wanted_spec hs.t c2 hg
      rw [hw]
      cases b with
      | true =>
        simp only [hg] at he
        cases hev : evK orc mt s.T s.m io.k with
        | none => simp [hev] at he
        | some r =>
          obtain ⟨v, m'⟩ := r
          simp only [hev] at he
          rw [if_pos rfl]
          refine op_sound ho hmt hs.h hs.amb hs.t c3 hev fun κ cv w' hv hb hm' hext => ?_
          have hs' := hs.put hA (d := io.dst) hv hb hm' hext
          rw [hdst] at hs' he
          refine evOps_sound hA ho hmt ops os ios (i + 1) c4 hd' κ _ s' _ w' hs' he fun μ a'' w'' h1 h2 h3 => hq μ a'' w'' h1 (hext.trans h2) (h3.trans (put_defers _ _ _))
      | false =>
        simp only [hg] at he
        rw [if_neg (by simp)]
        refine ⟨fun _ _ => trivial, ?_⟩
        have hs' := hs.put hA (d := io.dst) (v := .u) (.u undef) (Bd.u _) hs.h (.refl _ _ _)
        rw [hdst] at hs' he
        exact evOps_sound hA ho hmt ops os ios (i + 1) c4 hd' ι _ s' _ w hs' he fun μ a'' w'' h1 h2 h3 => hq μ a'' w'' h1 h2 (h3.trans (put_defers _ _ _))
  | [], _ :: _, _, hc, _, _, _, _, _, _, _, _, _ => by simp [chkOps] at hc
  | _ :: _, [], _, hc, _, _, _, _, _, _, _, _, _ => by simp [chkOps] at hc

/-- A region in the order of the text. -/
theorem reg_sound (hA : AmbOK A) (ho : OrcOK P A orc) (hmt : MethOK P mt) {id : Nat} {ops : Array Oper} {ios : List IOp} (hc : chkOps P ops ops.toList ios = true) {s s' : St} (hs : SR A ι s a w) (he : evOps orc mt ios s = some s') {Q : Exit → Act → World → Prop}
    (hq : ∀ κ a' w', SR A κ s' a' w' → Ext ι s.m.hv w κ s'.m.hv w' → a'.defers = a.defers → Q .normal a' w') : (Code.region id ops false).wpIn (Fz rr) dp P Q a w := by
  refine wpIn_region ?_
  have := evOps_sound (rr := rr) (dp := dp) hA ho hmt ops ops.toList ios 0 hc (by simp) ι s s' a w hs he hq
  simpa [List.range_eq_range'] using this

end
end Go.Em
