/- The abstract machine: calls with memory whose results are known. -/
import Derived.Test.YtokhjbkkpbceeaaGreatDoorHa
namespace Go.Em
open Go
set_option linter.unusedSimpArgs false
set_option linter.unusedVariables false

def Blk.beq (a b : Blk) : Bool := AV.beqL a.cells b.cells && Nat.beq a.el b.el && Nat.beq a.es b.es && (a.ro == b.ro)
theorem Blk.beq_spec {a b : Blk} (h : Blk.beq a b = true) : a = b := by
  simp only [Blk.beq, Bool.and_eq_true, Nat.beq_eq, beq_iff_eq] at h
  obtain ⟨⟨⟨h1, h2⟩, h3⟩, h4⟩ := h
  have := AV.beqL_spec _ _ h1
  cases a; cases b
  simp only at this h2 h3 h4
  rw [this, h2, h3, h4]
def oblkBeq : Option Blk → Option Blk → Bool
  | none, none => true
  | some a, some b => Blk.beq a b
  | _, _ => false
theorem oblkBeq_spec : ∀ {a b : Option Blk}, oblkBeq a b = true → a = b
  | none, none, _ => rfl
  | some a, some b, h => by rw [Blk.beq_spec h]
  | none, some _, h => by simp [oblkBeq] at h
  | some _, none, h => by simp [oblkBeq] at h

/-- A memory that is written out. -/
def atB : List (Option Blk) → Nat → Option Blk
  | [], _ => none
  | b :: _, 0 => b
  | _ :: r, n + 1 => atB r n
def hvB (bs : List (Option Blk)) : Hv := ⟨bs.length, atB bs⟩
def sameB (look : Nat → Option Blk) : Nat → List (Option Blk) → Bool
  | _, [] => true
  | i, b :: r => oblkBeq (look i) b && sameB look (i + 1) r
theorem sameB_spec {look : Nat → Option Blk} : ∀ (bs : List (Option Blk)) (i : Nat), sameB look i bs = true → ∀ k, k < bs.length → look (i + k) = atB bs k
  | [], i, _, k, h => by simp at h
  | b :: r, i, hc, k, h => by
    simp only [sameB, Bool.and_eq_true] at hc
    cases k with
    | zero => exact oblkBeq_spec hc.1
    | succ k =>
      have := sameB_spec r (i + 1) hc.2 k (by simpa using h)
      rw [show i + (k + 1) = i + 1 + k by omega, this]
      rfl
theorem atB_none : ∀ (bs : List (Option Blk)) (k : Nat), bs.length ≤ k → atB bs k = none
  | [], _, _ => rfl
  | _ :: r, 0, h => by simp at h
  | _ :: r, k + 1, h => atB_none r k (by simpa using h)

/-- What a call comes to hangs on the memory below its bound alone. -/
theorem FnS.of_look {P : Program} {f : FuncId} {args : List AV} {H H' : Hv} {c : CR} (h : FnS P f args H c) (hn : H'.n = H.n) (hl : ∀ i, i < H.n → H'.look i = H.look i) (hd : ∀ i, H.n ≤ i → H.look i = none) : FnS P f args H' c := by
  intro ι w cargs hH hargs hbd
  have e : H' = H := by
    obtain ⟨n, lk⟩ := H
    obtain ⟨n', lk'⟩ := H'
    simp only at hn
    subst hn
    congr 1
    funext i
    by_cases hi : i < n'
    · exact hl i hi
    · have h1 : lk i = none := hd i (Nat.le_of_not_lt hi)
      rw [h1]
      cases hx : lk' i with
      | none => rfl
      | some k => exact absurd (hH.dom i k hx) hi
  subst e
  exact h ι w cargs hH hargs hbd

structure ME where
  f : Nat
  args : List AV
  bs : List (Option Blk)
  c : CR
def memoB : List ME → Orc
  | [], _, _, _ => none
  | e :: r, f, args, H => bif Nat.beq f e.f && Nat.beq H.n e.bs.length && AV.beqL e.args args && sameB H.look 0 e.bs then some e.c else memoB r f args H
def MEOK (P : Program) (l : List ME) : Prop := ∀ e ∈ l, FnS P e.f e.args (hvB e.bs) e.c
theorem memoB_ok {P : Program} : ∀ {l : List ME}, MEOK P l → SpecOK P (memoB l)
  | [], _, f, args, H, c, h => by simp [memoB] at h
  | e :: r, hM, f, args, H, c, h => by
    simp only [memoB] at h
    cases hb : (Nat.beq f e.f && Nat.beq H.n e.bs.length && AV.beqL e.args args && sameB H.look 0 e.bs) with
    | true =>
      simp only [hb, cond_true, Option.some.injEq] at h
      simp only [Bool.and_eq_true, Nat.beq_eq] at hb
      obtain ⟨⟨⟨rfl, h2⟩, h3⟩, h4⟩ := hb
      have := AV.beqL_spec _ _ h3
      subst this h
      refine (hM e (by simp)).of_look h2 (fun i hi => ?_) fun i hi => atB_none _ _ hi
      have := sameB_spec e.bs 0 h4 i hi
      rw [Nat.zero_add] at this
      exact this
    | false =>
      simp only [hb, cond_false] at h
      exact memoB_ok (l := r) (fun e he => hM e (by simp [he])) f args H c h

def updsBeq : List (Nat × Option Blk) → List (Nat × Option Blk) → Bool
  | [], [] => true
  | (i, a) :: r, (j, b) :: s => Nat.beq i j && oblkBeq a b && updsBeq r s
  | _, _ => false
def newsBeq : List (Option Blk) → List (Option Blk) → Bool
  | [], [] => true
  | a :: r, b :: s => oblkBeq a b && newsBeq r s
  | _, _ => false
theorem updsBeq_spec : ∀ {a b : List (Nat × Option Blk)}, updsBeq a b = true → a = b
  | [], [], _ => rfl
  | (i, a) :: r, (j, b) :: s, h => by
    simp only [updsBeq, Bool.and_eq_true, Nat.beq_eq] at h
    rw [h.1.1, oblkBeq_spec h.1.2, updsBeq_spec h.2]
  | [], _ :: _, h => by simp [updsBeq] at h
  | _ :: _, [], h => by simp [updsBeq] at h
theorem newsBeq_spec : ∀ {a b : List (Option Blk)}, newsBeq a b = true → a = b
  | [], [], _ => rfl
  | a :: r, b :: s, h => by
    simp only [newsBeq, Bool.and_eq_true] at h
    rw [oblkBeq_spec h.1, newsBeq_spec h.2]
  | [], _ :: _, h => by simp [newsBeq] at h
  | _ :: _, [], h => by simp [newsBeq] at h
def isC (c : CR) : Option CR → Bool
  | some d => AV.beq d.v c.v && updsBeq d.upd c.upd && newsBeq d.new c.new
  | none => false
theorem isC_spec {c : CR} {o : Option CR} (h : isC c o = true) : o = some c := by
  cases o with
  | none => simp [isC] at h
  | some d =>
    simp only [isC, Bool.and_eq_true] at h
    obtain ⟨⟨h1, h2⟩, h3⟩ := h
    cases d; cases c
    simp only at h1 h2 h3
    rw [AV.beq_spec _ _ h1, updsBeq_spec h2, newsBeq_spec h3]
/-- One entry, evaluated. -/
theorem me_ok {P : Program} {tab : FuncId → Option FDef} {spec : Orc} {mt : Meth} (ht : ∀ f d, tab f = some d → chkF P f d = true) (hsp : SpecOK P spec) (hmt : MethOK P mt) (hmix : P.follows .mixedOrders = true) {F n : Nat} {e : ME}
    (h : isC e.c (orcTF tab spec mt F n e.f e.args (hvB e.bs)) = true) : FnS P e.f e.args (hvB e.bs) e.c := by
  have h := isC_spec h
  rw [orcTF_eq] at h
  have hne : e.f ≠ yKey := by
    intro he
    rw [he] at h
    cases n <;> simp [orcT] at h
  exact (orcT_ok ht hsp hmt hmix F n _ _ _ _ h).1 hne
end Go.Em
