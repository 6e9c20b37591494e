/- The abstract machine: a region whose order is open. What is computed, and first facts. -/
import Derived.Test.YtokhjbkkpbceeaaGreatDoorEm
namespace Go.Em
open Go
set_option linter.unusedSimpArgs false
set_option linter.unusedVariables false

/-! ### Equality of values, decided -/

mutual
def AV.beq : AV → AV → Bool
  | .u, .u => true
  | .b x, .b y => x == y
  | .i k n, .i k' n' => decide (k = k') && decide (n = n')
  | .s x, .s y => bytesEq x y
  | .p none, .p none => true
  | .p (some (a, o)), .p (some (a', o')) => Nat.beq a a' && Nat.beq o o'
  | .sl none l c e, .sl none l' c' e' => Nat.beq l l' && Nat.beq c c' && (e == e')
  | .sl (some (a, o)) l c e, .sl (some (a', o')) l' c' e' => Nat.beq a a' && Nat.beq o o' && Nat.beq l l' && Nat.beq c c' && (e == e')
  | .fn f xs ys, .fn f' xs' ys' => decide (f = f') && AV.beqL xs xs' && AV.beqL ys ys'
  | .nf, .nf => true
  | .ifc t v, .ifc t' v' => Nat.beq t t' && AV.beq v v'
  | .ni, .ni => true
  | .ag xs, .ag ys => AV.beqL xs ys
  | .tp xs, .tp ys => AV.beqL xs ys
  | _, _ => false
def AV.beqL : List AV → List AV → Bool
  | [], [] => true
  | x :: xs, y :: ys => AV.beq x y && AV.beqL xs ys
  | _, _ => false
end

mutual
theorem AV.beq_spec : ∀ (x y : AV), AV.beq x y = true → x = y
  | .u, y, h => by cases y <;> simp [AV.beq] at h; rfl
  | .b x, y, h => by cases y <;> simp [AV.beq] at h; rw [h]
  | .i k n, y, h => by cases y <;> simp [AV.beq] at h; rw [h.1, h.2]
  | .s x, y, h => by cases y <;> simp [AV.beq] at h; rw [bytesEq_spec h]
  | .p none, y, h => by
    cases y with
    | p a => cases a with
      | none => rfl
      | some q => simp [AV.beq] at h
    | _ => simp [AV.beq] at h
  | .p (some (a, o)), y, h => by
    cases y with
    | p b => cases b with
      | none => simp [AV.beq] at h
      | some q => obtain ⟨a', o'⟩ := q; simp [AV.beq] at h; rw [h.1, h.2]
    | _ => simp [AV.beq] at h
  | .sl none l c e, y, h => by
    cases y with
    | sl b _ _ _ => cases b with
      | none => simp [AV.beq] at h; rw [h.1.1, h.1.2, h.2]
      | some q => simp [AV.beq] at h
    | _ => simp [AV.beq] at h
  | .sl (some (a, o)) l c e, y, h => by
    cases y with
    | sl b _ _ _ => cases b with
      | none => simp [AV.beq] at h
      | some q =>
        obtain ⟨a', o'⟩ := q
        simp [AV.beq] at h
        obtain ⟨⟨⟨⟨h1, h2⟩, h3⟩, h4⟩, h5⟩ := h
        rw [h1, h2, h3, h4, h5]
    | _ => simp [AV.beq] at h
  | .fn f xs ys, y, h => by
    cases y <;> simp only [AV.beq] at h <;> (try (cases h; done))
    simp only [Bool.and_eq_true, decide_eq_true_eq] at h
    rw [h.1.1, AV.beqL_spec _ _ h.1.2, AV.beqL_spec _ _ h.2]
  | .nf, y, h => by cases y <;> simp [AV.beq] at h; rfl
  | .ifc t v, y, h => by
    cases y <;> simp only [AV.beq] at h <;> (try (cases h; done))
    simp only [Bool.and_eq_true, Nat.beq_eq] at h
    rw [h.1, AV.beq_spec _ _ h.2]
  | .ni, y, h => by cases y <;> simp [AV.beq] at h; rfl
  | .ag xs, y, h => by
    cases y <;> simp only [AV.beq] at h <;> (try (cases h; done))
    rw [AV.beqL_spec _ _ h]
  | .tp xs, y, h => by
    cases y <;> simp only [AV.beq] at h <;> (try (cases h; done))
    rw [AV.beqL_spec _ _ h]
theorem AV.beqL_spec : ∀ (xs ys : List AV), AV.beqL xs ys = true → xs = ys
  | [], [], _ => rfl
  | x :: xs, y :: ys, h => by
    simp only [AV.beqL, Bool.and_eq_true] at h
    rw [AV.beq_spec _ _ h.1, AV.beqL_spec _ _ h.2]
  | [], _ :: _, h => by simp [AV.beqL] at h
  | _ :: _, [], h => by simp [AV.beqL] at h
end

/-! ### Memory with some blocks hidden -/

def Mem.mask (M : Mem) (base : Nat) : List Nat → Mem
  | [] => M
  | r :: rs => (M.mask base rs).put (base + r) none
def Mem.rest (m' M : Mem) (base : Nat) : List Nat → Mem
  | [] => m'
  | r :: rs => (m'.rest M base rs).put (base + r) (M.look (base + r))
def Mem.pushN (m : Mem) : Nat → Mem
  | 0 => m
  | n + 1 => (m.pushN n).push none

theorem Mem.top_mask (M : Mem) (base : Nat) : ∀ l, (M.mask base l).top = M.top
  | [] => rfl
  | r :: rs => by rw [Mem.mask, Mem.top_put, Mem.top_mask M base rs]
theorem Mem.look_mask (M : Mem) (base i : Nat) : ∀ l, (∀ r ∈ l, base + r < M.top) → (M.mask base l).look i = if ∃ r ∈ l, i = base + r then none else M.look i
  | [], _ => by simp [Mem.mask]
  | r :: rs, h => by
    rw [Mem.mask, Mem.look_put _ _ _ _ (by rw [Mem.top_mask]; exact h r (by simp)), Mem.look_mask M base i rs (fun q hq => h q (by simp [hq]))]
    by_cases e : base + r = i
    · rw [if_pos e, if_pos ⟨r, by simp, e.symm⟩]
    · rw [if_neg e]
      by_cases e2 : ∃ q ∈ rs, i = base + q
      · rw [if_pos e2, if_pos (by obtain ⟨q, h1, h2⟩ := e2; exact ⟨q, by simp [h1], h2⟩)]
      · rw [if_neg e2, if_neg (by
          rintro ⟨q, h1, h2⟩
          rcases List.mem_cons.1 h1 with rfl | h1
          · exact e h2.symm
          · exact e2 ⟨q, h1, h2⟩)]
theorem Mem.top_rest (m' M : Mem) (base : Nat) : ∀ l, (m'.rest M base l).top = m'.top
  | [] => rfl
  | r :: rs => by rw [Mem.rest, Mem.top_put, Mem.top_rest m' M base rs]
theorem Mem.look_rest (m' M : Mem) (base i : Nat) : ∀ l, (∀ r ∈ l, base + r < m'.top) → (m'.rest M base l).look i = if ∃ r ∈ l, i = base + r then M.look i else m'.look i
  | [], _ => by simp [Mem.rest]
  | r :: rs, h => by
    rw [Mem.rest, Mem.look_put _ _ _ _ (by rw [Mem.top_rest]; exact h r (by simp)), Mem.look_rest m' M base i rs (fun q hq => h q (by simp [hq]))]
    by_cases e : base + r = i
    · rw [if_pos e, if_pos ⟨r, by simp, e.symm⟩, e]
    · rw [if_neg e]
      by_cases e2 : ∃ q ∈ rs, i = base + q
      · rw [if_pos e2, if_pos (by obtain ⟨q, h1, h2⟩ := e2; exact ⟨q, by simp [h1], h2⟩)]
      · rw [if_neg e2, if_neg (by
          rintro ⟨q, h1, h2⟩
          rcases List.mem_cons.1 h1 with rfl | h1
          · exact e h2.symm
          · exact e2 ⟨q, h1, h2⟩)]
theorem Mem.top_pushN (m : Mem) : ∀ n, (m.pushN n).top = m.top + n
  | 0 => rfl
  | n + 1 => by rw [Mem.pushN, Mem.top_push, Mem.top_pushN m n]; omega
theorem Mem.look_pushN (m : Mem) (i : Nat) : ∀ n, (m.pushN n).look i = m.look i
  | 0 => rfl
  | n + 1 => by
    rw [Mem.pushN, Mem.look_push, Mem.look_pushN m i n]
    split
    · rename_i h
      rw [Mem.top_pushN] at h
      cases hl : m.look i with
      | none => rfl
      | some k => have := m.look_lt hl; omega
    · rfl

/-! ### Kinds of instructions -/

def isPure : IK → Bool
  | .mv _ | .pick .. | .build .. | .nilChk _ | .bin .. | .eqB .. | .eqP .. | .eqS .. | .eqC .. | .un .. | .conv .. | .sts _ | .mkI .. | .mkF .. | .slcT .. | .fad .. | .iadS .. | .iadA .. | .idxT .. | .idxA .. | .fld .. | .ext .. | .lenT _ | .lenS _ | .lenK _ | .capS _ | .mnmx .. => true
  | _ => false
def isRead : IK → Bool
  | .ld .. | .bts .. | .slcS .. | .slcA .. => true
  | _ => false

theorem evK_map {orc : Orc} {mt : Meth} {T : List AV} {k : IK} (hp : isPure k = true) (m M : Mem) : evK orc mt T M k = (evK orc mt T m k).map fun p => (p.1, M) := by
  cases k <;> simp only [isPure] at hp <;> (try (cases hp; done)) <;> simp only [evK, IK.ev]
  case mv => rfl
  case lenK => rfl
  case mkF => rfl
  case build => rw [Option.map_map]; rfl
  case bin => rw [Option.map_map]; rfl
  case un => rw [Option.map_map]; rfl
  case eqC => split <;> first | rfl | (rw [Option.map_map]; rfl)
  case idxT => split <;> first | rfl | (split <;> first | rfl | (rw [Option.map_map]; rfl))
  case ext => split <;> first | rfl | (rw [Option.map_map]; rfl)
  case idxA n es agg x i =>
    split <;> first | rfl | skip
    split <;> first | rfl | skip
    cases (Nat.blt _ _ && Nat.ble _ _) <;> simp only [cond_true, cond_false] <;> first | rfl | skip
    cases agg <;> simp only [cond_true, cond_false] <;> first | rfl | (rw [Option.map_map]; rfl)
  case fld off n agg x =>
    split <;> first | rfl | skip
    cases Nat.ble _ _ <;> simp only [cond_true, cond_false] <;> first | rfl | skip
    cases agg <;> simp only [cond_true, cond_false] <;> first | rfl | (rw [Option.map_map]; rfl)
  case slcT =>
    split <;> first | rfl | skip
    split <;> first | rfl | skip
    cases (Nat.ble _ _ && Nat.ble _ _) <;> rfl
  case iadS =>
    split <;> first | rfl | skip
    split <;> first | rfl | skip
    cases Nat.blt _ _ <;> rfl
  case iadA =>
    split <;> first | rfl | skip
    split <;> first | rfl | skip
    cases Nat.blt _ _ <;> rfl
  case eqP =>
    split <;> first | rfl | skip
    cases Nat.beq _ _ <;> rfl
  case mnmx =>
    split <;> first | rfl | skip
    split <;> rfl
  case nilChk x =>
    split
    · split <;> rfl
    · split <;> rfl
  case mkI => split <;> rfl
  all_goals (split <;> rfl)

theorem evK_pure {orc : Orc} {mt : Meth} {T : List AV} {m m' : Mem} {k : IK} {v : AV} (hp : isPure k = true) (h : evK orc mt T m k = some (v, m')) (M : Mem) : m' = m ∧ evK orc mt T M k = some (v, M) := by
  have h1 := evK_map (orc := orc) (mt := mt) (T := T) hp m m
  have h2 := evK_map (orc := orc) (mt := mt) (T := T) hp m M
  rw [h] at h1 h2
  simp at h1
  exact ⟨h1, by simpa using h2⟩

theorem evK_read {orc : Orc} {mt : Meth} {T : List AV} {m m' : Mem} {k : IK} {v : AV} (hp : isRead k = true) (h : evK orc mt T m k = some (v, m')) : m' = m ∧ ∀ M : Mem, M.look = m.look → evK orc mt T M k = some (v, M) := by
  have key : ∀ M : Mem, M.look = m.look → evK orc mt T M k = (evK orc mt T m k).map fun p => (p.1, M) := by
    intro M hM
    have hrd : ∀ a o n, rd M a o n = rd m a o n := fun a o n => by simp only [rd, hM]
    cases k <;> simp only [isRead] at hp <;> (try (cases hp; done)) <;> simp only [evK, IK.ev, hM, hrd]
    case ld agg n x =>
      split <;> first | rfl | skip
      split <;> first | rfl | skip
      cases agg <;> simp only [cond_true, cond_false] <;> first | rfl | (split <;> rfl)
    case bts =>
      split <;> first | rfl | skip
      cases Nat.beq _ _ <;> simp only [cond_true, cond_false] <;> first | rfl | skip
      split <;> first | rfl | (rw [Option.map_map]; rfl)
    case slcS =>
      split
      · split <;> first | rfl | skip
        cases Nat.beq _ _ <;> simp only [cond_true, cond_false] <;> first | rfl | skip
        split <;> first | rfl | (rw [Option.map_map]; rfl)
      · split <;> rfl
      · rfl
    case slcA =>
      split <;> first | rfl | skip
      split <;> first | rfl | skip
      cases (Nat.beq _ _ && Nat.beq _ _ && Nat.beq _ _ && _) <;> simp only [cond_true, cond_false] <;> first | rfl | skip
      split <;> first | rfl | (rw [Option.map_map]; rfl)
  have h1 := key m rfl
  rw [h] at h1
  simp at h1
  refine ⟨h1, fun M hM => ?_⟩
  have h2 := key M hM
  rw [h] at h2
  simpa using h2

end Go.Em
