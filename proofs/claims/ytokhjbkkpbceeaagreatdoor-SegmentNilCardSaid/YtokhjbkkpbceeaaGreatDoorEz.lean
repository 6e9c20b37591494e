/- The abstract machine: pure calls whose results are known. -/
import Derived.Test.YtokhjbkkpbceeaaGreatDoorEv
namespace Go.Em
open Go
set_option linter.unusedSimpArgs false
set_option linter.unusedVariables false

def hvE : Hv := ⟨0, fun _ => none⟩
def nilB : List Nat → Bool
  | [] => true
  | _ => false
theorem nilB_spec {l : List Nat} (h : nilB l = true) : l = [] := by cases l <;> simp [nilB] at h; rfl

theorem Lands.mono {P : Program} {R R' : Value → World → Prop} {r : Result Next} (h : Lands P R r) (hr : ∀ v w, R v w → R' v w) : Lands P R' r := by
  cases r with
  | ok n w => cases n <;> first | exact hr _ _ h | exact Calls.mono h (fun e w ⟨v, he, hv⟩ => ⟨v, he, hr _ _ hv⟩) | exact h
  | halt x w => exact h

theorem after_nil {H : Hv} (hdom : ∀ i k, H.look i = some k → i < H.n) (v : AV) : H.after ⟨v, [], []⟩ = H := by
  obtain ⟨n, lk⟩ := H
  unfold Hv.after
  congr 1
  funext x
  by_cases hx : x < n
  · have hb : Nat.blt x n = true := by simpa [Nat.blt_eq] using hx
    simp [hb, lookU]
  · have hb : Nat.blt x n = false := by rw [← Bool.not_eq_true, Nat.blt_eq]; exact hx
    simp only [hb, cond_false]
    cases hl : lk x with
    | none => simp
    | some q => exact absurd (hdom x q hl) hx

/-- What is shown where nothing is known of the memory holds wherever. -/
theorem FnS.lift {P : Program} {f : FuncId} {args : List AV} {v : AV} (h : FnS P f args hvE ⟨v, [], []⟩) (ha : AV.refsL args = []) (hv : v.refs = []) (H : Hv) : FnS P f args H ⟨v, [], []⟩ := by
  intro ι w cargs hH hargs hbd
  have hE : HR ι hvE w := ⟨fun i k h => (by cases h), fun i k h => (by cases h), fun i j k l h => (by cases h)⟩
  have nb : ∀ x ∈ args, ∀ r, ¬ Rf r x := fun x hx r hr => by
    have := mem_refsL.2 ⟨x, hx, hr.refs⟩
    rw [ha] at this
    cases this
  refine (h ι w cargs hE hargs fun x hx r hr => absurd hr (nb x hx r)).mono fun cv w' ⟨κ, h1, h2, h3, h4⟩ => ?_
  have hfr : ∀ b, b < w.heap.size → w'.heap[b]? = w.heap[b]? := fun b hb => h1.frame b hb fun i k hi => by cases hi
  have nv : ∀ r, ¬ Rf r v := fun r hr => by have := hr.refs; rw [hv] at this; cases this
  refine ⟨ι, ?_, ?_, h3.congr fun r hr => absurd hr (nv r), fun r hr => absurd hr (nv r)⟩
  · rw [after_nil hH.dom]
    exact ⟨fun _ _ => rfl, Nat.le_refl _, h1.size, h1.tape, h1.os, h1.output, fun b hb _ => hfr b hb, fun i k hi => .inr ⟨i, k, hi, id, rfl⟩⟩
  · rw [after_nil hH.dom]
    exact ⟨hH.dom, fun i k hi => (hH.blk i k hi).world (hfr _ (hH.blk i k hi).lt), hH.inj⟩

abbrev Memo := List (Nat × List AV × AV)
def memoO : Memo → Orc
  | [], _, _, _ => none
  | (g, xs, v) :: r, f, args, H => bif Nat.beq f g && AV.beqL xs args then some ⟨v, [], []⟩ else memoO r f args H
def orO (a b : Orc) : Orc := fun f args H => match a f args H with
  | some c => some c
  | none => b f args H
def SpecOK (P : Program) (o : Orc) : Prop := ∀ f args H c, o f args H = some c → FnS P f args H c
def MemoOK (P : Program) (M : Memo) : Prop := ∀ f args v, (f, args, v) ∈ M → ∀ H, FnS P f args H ⟨v, [], []⟩
theorem memoO_ok {P : Program} : ∀ {M : Memo}, MemoOK P M → SpecOK P (memoO M)
  | [], _, f, args, H, c, h => by simp [memoO] at h
  | (g, xs, v) :: r, hM, f, args, H, c, h => by
    simp only [memoO] at h
    cases hb : (Nat.beq f g && AV.beqL xs args) with
    | true =>
      simp only [hb, cond_true, Option.some.injEq] at h
      simp only [Bool.and_eq_true, Nat.beq_eq] at hb
      obtain ⟨rfl, hx⟩ := hb
      have := AV.beqL_spec _ _ hx
      subst this
      subst h
      exact hM _ _ _ (by simp) H
    | false =>
      simp only [hb, cond_false] at h
      exact memoO_ok (M := r) (fun f args v h => hM f args v (by simp [h])) f args H c h
theorem orO_ok {P : Program} {a b : Orc} (ha : SpecOK P a) (hb : SpecOK P b) : SpecOK P (orO a b) := fun f args H c h => by
  unfold orO at h
  split at h
  · rename_i c' hc; cases h; exact ha _ _ _ _ hc
  · exact hb _ _ _ _ h

def isV (v : AV) : Option CR → Bool
  | some ⟨v', [], []⟩ => AV.beq v' v
  | _ => false
def chkM (tab : FuncId → Option FDef) (spec : Orc) (mt : Meth) (F n : Nat) : Memo → Memo → Bool
  | _, [] => true
  | M, (f, args, v) :: r => nilB (AV.refsL args) && nilB v.refs && isV v (orcT tab (orO (memoO M) spec) mt F n f args hvE) && chkM tab spec mt F n ((f, args, v) :: M) r
def addM : Memo → Memo → Memo
  | M, [] => M
  | M, e :: r => addM (e :: M) r
theorem chkM_ok {P : Program} {tab : FuncId → Option FDef} {spec : Orc} {mt : Meth} (ht : ∀ f d, tab f = some d → chkF P f d = true) (hsp : SpecOK P spec) (hmt : MethOK P mt) (hmix : P.follows .mixedOrders = true) {F n : Nat} :
    ∀ (l M : Memo), MemoOK P M → chkM tab spec mt F n M l = true → MemoOK P (addM M l)
  | [], M, hM, _ => hM
  | (f, args, v) :: r, M, hM, hc => by
    simp only [chkM, Bool.and_eq_true] at hc
    obtain ⟨⟨⟨h1, h2⟩, h3⟩, h4⟩ := hc
    refine chkM_ok ht hsp hmt hmix r _ (fun g xs q hmem => ?_) h4
    rcases List.mem_cons.1 hmem with h | h
    · cases h
      unfold isV at h3
      split at h3 <;> (try (cases h3; done))
      rename_i v' hv'
      have := AV.beq_spec _ _ h3
      subst this
      have hne : f ≠ yKey := by
        rintro rfl
        cases n <;> simp [orcT] at hv'
      have hF := (orcT_ok ht (orO_ok (memoO_ok hM) hsp) hmt hmix F n f args hvE _ hv').1 hne
      exact fun H => hF.lift (nilB_spec h1) (nilB_spec h2) H
    · exact hM g xs q h
end Go.Em
