/- The abstract machine: code, results of functions. -/
import Derived.Test.YtokhjbkkpbceeaaGreatDoorEs
import Derived.LoopNIn
namespace Go.Em
open Go
set_option linter.unusedSimpArgs false
set_option linter.unusedVariables false

/-! ### What was found stays what was found -/

structure Same (m m' : Mem) : Prop where
  n : m'.n = m.n
  old : m'.old = m.old
theorem Same.refl (m : Mem) : Same m m := ⟨rfl, rfl⟩
theorem Same.trans {a b c : Mem} (h : Same a b) (k : Same b c) : Same a c := ⟨k.n.trans h.n, k.old.trans h.old⟩
theorem Same.put (m : Mem) (i : Nat) (b : Option Blk) : Same m (m.put i b) := by
  unfold Mem.put
  cases Nat.blt i m.n <;> exact ⟨rfl, rfl⟩
theorem Same.push (m : Mem) (b : Option Blk) : Same m (m.push b) := ⟨rfl, rfl⟩
theorem Same.puts (m : Mem) : ∀ u, Same m (m.puts u)
  | [] => .refl _
  | (i, b) :: r => (Same.puts m r).trans (.put _ _ _)
theorem Same.apply (m : Mem) (c : CR) : Same m (m.apply c) := by
  rw [Mem.apply_eq]
  exact ⟨(Same.puts m c.upd).n, (Same.puts m c.upd).old⟩
theorem Same.mask (m : Mem) (base : Nat) : ∀ l, Same m (m.mask base l)
  | [] => .refl _
  | r :: rs => (Same.mask m base rs).trans (.put _ _ _)
theorem Same.rest (m' M : Mem) (base : Nat) : ∀ l, Same m' (m'.rest M base l)
  | [] => .refl _
  | r :: rs => (Same.rest m' M base rs).trans (.put _ _ _)
theorem Same.pushN (m : Mem) : ∀ n, Same m (m.pushN n)
  | 0 => .refl _
  | n + 1 => (Same.pushN m n).trans (.push _ _)

/-- What was found stays what was found. -/
theorem evK_base {orc : Orc} {mt : Meth} {T : List AV} {m m' : Mem} {k : IK} {v : AV} (h : evK orc mt T m k = some (v, m')) : Same m m' := by
  by_cases hp : isPure k = true
  · rw [(evK_pure hp h m).1]; exact .refl _
  by_cases hr : isRead k = true
  · rw [(evK_read hr h).1]; exact .refl _
  have hwr : ∀ {a o : Nat} {vs : List AV} {m1 : Mem}, wr m a o vs = some m1 → Same m m1 := by
    intro a o vs m1 hw
    unfold wr at hw
    cases hk : m.look a with
    | none => simp [hk] at hw
    | some q =>
      simp only [hk] at hw
      generalize q.ro = b1 at hw
      generalize Nat.ble (o + vs.length) q.cells.length = b2 at hw
      generalize allOne vs = b3 at hw
      cases b1 <;> cases b2 <;> cases b3 <;> simp at hw
      rw [← hw]; exact .put _ _ _
  have hap : ∀ c : CR, Same m (m.apply c) := fun c => .apply m c
  cases k <;> simp only [isPure, isRead, not_true] at hp hr <;> simp only [evK, IK.ev] at h
  case new => simp at h; rw [← h.2]; exact .push _ _
  case box =>
    split at h <;> (try (cases h; done))
    simp at h; rw [← h.2]; exact .push _ _
  case buildS => simp at h; obtain ⟨_, _, h⟩ := h; rw [← h.2]; exact .push _ _
  case st =>
    split at h <;> (try (cases h; done))
    split at h <;> (try (cases h; done))
    generalize Nat.beq _ _ = b1 at h
    cases b1 <;> simp only [cond_true, cond_false, Option.map_eq_some_iff, Prod.mk.injEq] at h <;> (try (cases h; done))
    obtain ⟨m1, h1, _, h2⟩ := h
    rw [← h2]; exact hwr h1
  case mkS =>
    split at h <;> (try (cases h; done))
    generalize (Nat.ble _ _ && Nat.ble _ _ && Nat.ble _ _ && Nat.ble _ _) = q at h
    cases q <;> simp at h
    rw [← h.2]; exact .push _ _
  case copy =>
    split at h <;> (try (cases h; done))
    split at h <;> (try (cases h; done))
    split at h
    · simp at h; rw [← h.2]; exact .refl _
    · generalize Nat.beq _ _ = q at h
      cases q <;> simp at h
      · split at h <;> (try (cases h; done))
        generalize Nat.beq _ _ = q at h
        cases q <;> simp only [cond_true, cond_false, Option.map_eq_some_iff, Prod.mk.injEq] at h <;> (try (cases h; done))
        obtain ⟨m1, h1, _, h2⟩ := h
        rw [← h2]; exact hwr h1
      · rw [← h.2]; exact .refl _
  case call => simp at h; obtain ⟨c, _, h⟩ := h; rw [← h.2]; exact hap c
  case callV =>
    unfold callV at h
    split at h
    · simp at h; obtain ⟨c, _, h⟩ := h; rw [← h.2]; exact hap c
    · simp at h; obtain ⟨c, _, h⟩ := h; rw [← h.2]; exact hap c
    · split at h <;> (try (cases h; done))
      split at h <;> (try (cases h; done))
      simp at h; obtain ⟨c, _, h⟩ := h; rw [← h.2]; exact hap c
    · cases h
  case callI =>
    split at h <;> (try (cases h; done))
    split at h <;> (try (cases h; done))
    simp at h; obtain ⟨c, _, h⟩ := h; rw [← h.2]; exact hap c
  case app =>
    split at h <;> (try (cases h; done))
    split at h <;> (try (cases h; done))
    unfold appF at h
    split at h <;> (try (cases h; done))
    generalize Nat.beq _ 0 = q at h
    cases q <;> simp only [cond_true, cond_false] at h
    · generalize (Nat.ble _ _ && Nat.ble _ _ && _ && Nat.ble _ _) = q at h
      cases q <;> simp only [cond_true, cond_false] at h <;> (try (cases h; done))
      split at h
      · simp at h; rw [← h.2]; exact .push _ _
      · split at h <;> (try (cases h; done))
        rename_i q _
        generalize q.ro = b1 at h
        cases b1 <;> simp only [cond_true, cond_false] at h <;> (try (cases h; done))
        generalize (Nat.beq _ _ && Nat.beq _ _) = q2 at h
        cases q2 <;> simp only [cond_true, cond_false] at h <;> (try (cases h; done))
        generalize Nat.ble _ _ = q3 at h
        cases q3 <;> simp only [cond_true, cond_false] at h
        · rename_i ex a0 b0 o0 h1 x0 h2
          cases ex <;> simp only [cond_true, cond_false] at h
          · generalize (Nat.beq _ _ && Nat.ble _ _) = q4 at h
            cases q4 <;> simp only [cond_true, cond_false, Option.map_eq_some_iff, Prod.mk.injEq] at h <;> (try (cases h; done))
            obtain ⟨_, _, _, h⟩ := h
            rw [← h]; exact (Same.put _ _ _).trans (.push _ _)
          · simp only [Option.map_eq_some_iff, Prod.mk.injEq] at h
            obtain ⟨_, _, _, h⟩ := h
            rw [← h]; exact .push _ _
        · simp only [Option.map_eq_some_iff, Prod.mk.injEq] at h
          obtain ⟨m1, h1, _, h2⟩ := h
          rw [← h2]; exact hwr h1
    · simp at h; rw [← h.2]; exact .refl _
  case bad => cases h

theorem evOps_base {orc : Orc} {mt : Meth} : ∀ (ios : List IOp) (s s' : St), evOps orc mt ios s = some s' → Same s.m s'.m
  | [], s, s', h => by simp only [evOps, Option.some.injEq] at h; rw [h]; exact .refl _
  | o :: r, s, s', h => by
    simp only [evOps] at h
    split at h
    · split at h
      · rename_i v m' he
        exact (evK_base he).trans (evOps_base r _ s' h)
      · cases h
    · have := evOps_base r _ s' h
      exact this
    · cases h
theorem evD_base {orc : Orc} {mt : Meth} {base : Nat} : ∀ (ds : List DOp) (i : Nat) (done : Done) (T : List AV) (M : Mem) (T' : List AV) (M' : Mem), evD orc mt base ds i done T M = some (T', M') → Same M M'
  | [], i, done, T, M, T', M', h => by simp only [evD, Option.some.injEq, Prod.mk.injEq] at h; rw [h.2]; exact .refl _
  | d :: r, i, done, T, M, T', M', h => by
    simp only [evD] at h
    cases hc : evD1 orc mt base done d T M with
    | none => simp [hc] at h
    | some c =>
      simp only [hc] at h
      refine Same.trans ?_ (evD_base r _ _ _ _ T' M' h)
      have hw := (evD1_way hc).1
      cases hw with
      | skip => exact .refl _
      | pure => exact .refl _
      | read => exact .refl _
      | heavy v m' h1 h2 he hr => exact ((Same.mask M base d.msk).trans (evK_base he)).trans (.rest m' M base d.msk)
      | new v b h1 h2 he => exact .put _ _ _
theorem evReg_base {orc : Orc} {mt : Meth} {nA : Nat} {ds : List DOp} {s s' : St} (h : evReg orc mt nA ds s = some s') : Same s.m s'.m := by
  unfold evReg at h
  cases he : evD orc mt s.m.top ds 0 [] s.T (s.m.pushN nA) with
  | none => simp [he] at h
  | some r =>
    obtain ⟨T, M⟩ := r
    simp only [he, Option.some.injEq] at h
    subst h
    exact (Same.pushN _ _).trans (evD_base ds _ _ _ _ _ _ he)

/-! ### Code -/

inductive IC where
  | skip
  | reg (ops : List IOp)
  | dreg (nA : Nat) (ds : List DOp)
  | seq (a b : IC)
  | cond (c : Opd) (a b : IC)
  | block (id : Nat) (a : IC)
  | loop (a : IC)
  | exit (id : Nat)
  | ret
  | rng (g : Opd) (ps : List Nat) (asg body : IC)
  | bad

inductive XE where
  | n
  | x (id : Nat)
  | r

def XE.out : XE → Exit
  | .n => .normal
  | .x id => .exit id
  | .r => .ret

/-- Runs a function's body in place: with what oracle, which function, on what arguments, in what memory. -/
abbrev Sub := Orc → FuncId → List AV → Mem → Option Mem

def setPs : List AV → List Nat → List AV → List AV
  | T, p :: ps, x :: xs => setPs (T.set p x) ps xs
  | T, _, _ => T

/-- The oracle within a range over a function: yield runs the loop's body. -/
def yieldOrc (orc : Orc) (y : Nat) (np : Nat) (body : List AV → Mem → Option Mem) : Orc := fun f args H =>
  bif Nat.beq f yKey then
    (match args with
     | .p (some (a, 0)) :: xs => bif Nat.beq a y && Nat.beq xs.length np then
         (match body xs ⟨H.n, H.look, [], []⟩ with
          | some m => some ⟨.b true, m.upd, m.ext⟩
          | none => none) else none
     | _ => none)
  else orc f args H

def exR (orc : Orc) (sub : Sub) (g : Opd) (ps : List Nat) (body : St → Option St) (s : St) : Option St :=
  match g.ev s.T with
  | .fn (.func gf) [] cap =>
    match sub (yieldOrc orc s.m.top ps.length fun xs m => match body ⟨setPs s.T ps xs, m⟩ with | some s' => some s'.m | none => none) gf (.fn (.yield s.m.top) [] [] :: cap) (s.m.push none) with
    | some m' => some ⟨s.T, m'⟩
    | none => none
  | _ => none

def iterL (f : St → Option (XE × St)) : Nat → St → Option (XE × St)
  | 0, _ => none
  | k + 1, s => match f s with
    | some (.n, s') => iterL f k s'
    | r => r

def two (fa fb : St → Option (XE × St)) (s0 : St) : Option St := match fa s0 with
  | some (.n, s1) => (match fb s1 with | some (.n, s2) => some s2 | _ => none)
  | _ => none

def exC (orc : Orc) (mt : Meth) (F : Nat) (sub : Sub) : IC → St → Option (XE × St)
  | .skip, s => some (.n, s)
  | .reg ops, s => match evOps orc mt ops s with | some s' => some (.n, s') | none => none
  | .dreg nA ds, s => match evReg orc mt nA ds s with | some s' => some (.n, s') | none => none
  | .seq a b, s => match exC orc mt F sub a s with
    | some (.n, s') => exC orc mt F sub b s'
    | r => r
  | .cond c a b, s => match c.ev s.T with
    | .b true => exC orc mt F sub a s
    | .b false => exC orc mt F sub b s
    | _ => none
  | .block id a, s => match exC orc mt F sub a s with
    | some (.x i, s') => bif Nat.beq i id then some (.n, s') else some (.x i, s')
    | r => r
  | .loop a, s => iterL (exC orc mt F sub a) F s
  | .exit id, s => some (.x id, s)
  | .ret, s => some (.r, s)
  | .rng g ps asg body, s => match exR orc sub g ps (two (exC orc mt F sub asg) (exC orc mt F sub body)) s with
    | some s' => some (.n, s')
    | none => none
  | .bad, _ => none

/-- Code without a range over a function. -/
def noRng : IC → Bool
  | .seq a b => noRng a && noRng b
  | .cond _ a b => noRng a && noRng b
  | .block _ a => noRng a
  | .loop a => noRng a
  | .rng .. => false
  | _ => true

def chkCode (P : Program) : IC → Code → Bool
  | .skip, .skip => true
  | .skip, .label _ => true
  | .reg ios, .region _ ops false => chkOps P ops ops.toList ios
  | .dreg nA ds, .region _ ops true => chkDreg P ops ds nA
  | .seq a b, .seq x y => chkCode P a x && chkCode P b y
  | .cond c a b, .cond o x y => opdOk c o && (chkCode P a x && chkCode P b y)
  | .block id a, .block id' x => Nat.beq id id' && chkCode P a x
  | .loop a, .loop x => chkCode P a x
  | .exit id, .exit id' => Nat.beq id id'
  | .ret, .ret => true
  | .rng g ps asg body, .rangeFunc o qs c d => opdOk g o && natsEq ps qs.toList && noRng asg && noRng body && (chkCode P asg c && chkCode P body d)
  | .bad, _ => true
  | _, _ => false

theorem iterL_base {f : St → Option (XE × St)} (hf : ∀ s e s', f s = some (e, s') → Same s.m s'.m) : ∀ (k : Nat) (s s' : St) (e : XE), iterL f k s = some (e, s') → Same s.m s'.m
  | 0, s, s', e, h => by simp [iterL] at h
  | k + 1, s, s', e, h => by
    simp only [iterL] at h
    split at h
    · rename_i s1 h1
      exact (hf _ _ _ h1).trans (iterL_base hf k _ _ _ h)
    · exact hf _ _ _ h

/-- What a run in place does to the memory. -/
def SubB (sub : Sub) : Prop := ∀ o f args m m', sub o f args m = some m' → Same m m'

theorem exC_base {orc : Orc} {mt : Meth} {F : Nat} {sub : Sub} (hsub : SubB sub) : ∀ (c : IC) (s s' : St) (e : XE), exC orc mt F sub c s = some (e, s') → Same s.m s'.m := by
  intro c
  induction c with
  | skip => intro s s' e h; simp [exC] at h; rw [h.2]; exact .refl _
  | reg ops =>
    intro s s' e h
    simp only [exC] at h
    split at h
    · rename_i s1 h1; simp at h; rw [← h.2]; exact evOps_base _ _ _ h1
    · cases h
  | dreg nA ds =>
    intro s s' e h
    simp only [exC] at h
    split at h
    · rename_i s1 h1; simp at h; rw [← h.2]; exact evReg_base h1
    · cases h
  | seq a b iha ihb =>
    intro s s' e h
    simp only [exC] at h
    split at h
    · rename_i s1 h1; exact (iha _ _ _ h1).trans (ihb _ _ _ h)
    · exact iha _ _ _ h
  | cond c a b iha ihb =>
    intro s s' e h
    simp only [exC] at h
    split at h
    · exact iha _ _ _ h
    · exact ihb _ _ _ h
    · cases h
  | block id a iha =>
    intro s s' e h
    simp only [exC] at h
    split at h
    · rename_i i s1 h1
      cases hb : Nat.beq i id <;> simp [hb] at h <;> rw [← h.2] <;> exact iha _ _ _ h1
    · exact iha _ _ _ h
  | loop a iha => intro s s' e h; exact iterL_base (fun s e s' h => iha s s' e h) _ _ _ _ h
  | exit id => intro s s' e h; simp [exC] at h; rw [h.2]; exact .refl _
  | ret => intro s s' e h; simp [exC] at h; rw [h.2]; exact .refl _
  | rng g ps asg body _ _ =>
    intro s s' e h
    simp only [exC] at h
    split at h <;> (try (cases h; done))
    rename_i s1 h1
    simp at h
    rw [← h.2]
    unfold exR at h1
    split at h1 <;> (try (cases h1; done))
    split at h1 <;> (try (cases h1; done))
    rename_i m' h2
    simp only [Option.some.injEq] at h1
    rw [← h1]
    exact (Same.push s.m none).trans (hsub _ _ _ _ _ h2)
  | bad => intro s s' e h; simp [exC] at h

/-- The marks of the ranges over functions that an activation has met. -/
def Mk (w : World) (a a' : Act) (w' : World) : Prop :=
  ∃ ms : List Nat, a'.defers = ms.map (fun D => ({ target := .collected D, args := #[] } : Deferred)) ++ a.defers ∧ ms.Nodup ∧ ∀ D ∈ ms, w.heap.size ≤ D ∧ w'.heap[D]? = some (.deferred (some []))
theorem Mk.same {w w' : World} {a a' : Act} (h : a'.defers = a.defers) : Mk w a a' w' := ⟨[], h, List.nodup_nil, fun D hD => by cases hD⟩

/-- What code comes to. -/
def Comes (A : Amb) (rr : Option Nat) (dp : Nat) (P : Program) (code : Code) (f : St → Option (XE × St)) : Prop :=
  ∀ (ι : Emb) (s s' : St) (e : XE) (a : Act) (w : World), SR A ι s a w → f s = some (e, s') → ∀ (Q : Exit → Act → World → Prop),
    (∀ κ a' w', SR A κ s' a' w' → Ext ι s.m.hv w κ s'.m.hv w' → Mk w a a' w' → Q e.out a' w') → code.wpIn (Fz rr) dp P Q a w


end Go.Em
