/- Comparison of two structs, cell by cell, against the model's. -/
import Derived.Test.YtokhjbkkpbceeaaGreatDoorEi
import Derived.Laws.StructEq
namespace Go.Em
open Go
set_option linter.unusedSimpArgs false
set_option linter.unusedVariables false

def shpF (P : Program) (g : TypeId → Option (List Leaf)) : List Field → Nat → Option (List Leaf)
  | [], _ => some []
  | f :: fs, off =>
    if f.name ≠ "_" ∧ f.offset = off then
      match g f.type with
      | some s => bif szIs P f.type s.length then (shpF P g fs (off + s.length)).map (s ++ ·) else none
      | none => none
    else none
/-- The cells of a type that holds nothing but bools, integers and strings. -/
def shp (P : Program) : Nat → TypeId → Option (List Leaf)
  | 0, _ => none
  | d + 1, t => match P.underlying t with
    | some .bool => some [.b]
    | some (.int k) => some [.i k]
    | some .string => some [.s]
    | some (.struct fs) => if P.stoodInHeld t then none else shpF P (shp P d) fs.toList 0
    | _ => none

section
variable {P : Program} {ι : Emb} {m m' : Mem} {w : World} {T : List AV} {a : Act} {v : AV} {o : Oper}

theorem eqCells_len : ∀ {s : List Leaf} {xs ys : List AV} {r : Bool}, eqCells s xs ys = some r → xs.length = s.length ∧ ys.length = s.length := by
  intro s xs ys
  fun_induction eqCells s xs ys <;> intro r h
  · simp
  all_goals try (cases h; done)
  all_goals
    rename_i ih
    simp only [Option.map_eq_some_iff] at h
    obtain ⟨q, hq, _⟩ := h
    have := ih hq
    simp; omega

theorem eqCells_append : ∀ {s t : List Leaf} {xs ys : List AV} {r : Bool}, eqCells (s ++ t) xs ys = some r → ∃ r1 r2, eqCells s (xs.take s.length) (ys.take s.length) = some r1 ∧ eqCells t (xs.drop s.length) (ys.drop s.length) = some r2 ∧ r = (r1 && r2)
  | [], t, xs, ys, r, h => ⟨true, r, rfl, by simpa using h, by simp⟩
  | l :: s, t, xs, ys, r, h => by
    cases xs with
    | nil => cases l <;> simp [eqCells] at h
    | cons x xs =>
      cases ys with
      | nil => cases l <;> cases x <;> simp [eqCells] at h
      | cons y ys =>
        cases l <;> cases x <;> simp only [List.cons_append, eqCells] at h <;> (try (cases h; done)) <;> cases y <;> simp only [eqCells] at h <;> (try (cases h; done))
        · rename_i p0 p1
          simp only [Option.map_eq_some_iff] at h
          obtain ⟨q, hq, rfl⟩ := h
          obtain ⟨r1, r2, h1, h2, rfl⟩ := eqCells_append hq
          exact ⟨(p0 == p1) && r1, r2, by simp only [List.length_cons, List.take_succ_cons, eqCells, h1, Option.map_some], by simpa using h2, (Bool.and_assoc _ _ _).symm⟩
        · rename_i kl k1 n1 k2 n2
          split at h
          · rename_i hk
            simp only [Option.map_eq_some_iff] at h
            obtain ⟨q, hq, rfl⟩ := h
            obtain ⟨r1, r2, h1, h2, rfl⟩ := eqCells_append hq
            exact ⟨decide (n1 = n2) && r1, r2, by simp only [List.length_cons, List.take_succ_cons, eqCells, h1, Option.map_some, if_pos hk], by simpa using h2, (Bool.and_assoc _ _ _).symm⟩
          · cases h
        · rename_i p0 p1
          simp only [Option.map_eq_some_iff] at h
          obtain ⟨q, hq, rfl⟩ := h
          obtain ⟨r1, r2, h1, h2, rfl⟩ := eqCells_append hq
          exact ⟨(p0 == p1) && r1, r2, by simp only [List.length_cons, List.take_succ_cons, eqCells, h1, Option.map_some], by simpa using h2, (Bool.and_assoc _ _ _).symm⟩

def isStructB (P : Program) (t : TypeId) : Bool := match P.underlying t with | some (.struct _) => true | _ => false
/-- A type's value out of its cells. -/
def mkVal (P : Program) (t : TypeId) (us : List Value) : Value := bif isStructB P t then .agg us.toArray else us.headD undef

theorem part_mk {d : Nat} {t : TypeId} {s : List Leaf} (hs : shp P d t = some s) (hz : szIs P t s.length = true) (us : Array Value) (off : Nat) (hl : off + s.length ≤ us.size) (w : World) :
    (part t us off).run P w = .ok (mkVal P t ((us.toList.drop off).take s.length)) w := by
  obtain ⟨i, hi, hin⟩ := szIs_spec hz
  cases d with
  | zero => simp [shp] at hs
  | succ d =>
    simp only [shp] at hs
    split at hs <;> (try (cases hs; done))
    case h_4 fs hu =>
      have hagg : (isAgg t).run P w = .ok true w := by simp [isAgg, run_underlying hu]
      simp only [part, Sem.run_bind, hagg, Result.andThen_ok, if_true, run_sizeOf' hi, Sem.run_pure, mkVal, isStructB, hu, cond_true, hin]
      congr 2
      apply Array.ext'
      simp
    all_goals
      rename_i hu
      cases hs
      have hagg : (isAgg t).run P w = .ok false w := by simp [isAgg, run_underlying hu]
      simp only [List.length_cons, List.length_nil] at hl ⊢
      have hoff : off < us.size := by omega
      simp only [part, Sem.run_bind, hagg, Result.andThen_ok, Bool.false_eq_true, if_false, mkVal, isStructB, hu, cond_false]
      have e : us[off]? = some us[off] := by simp [hoff]
      rw [e]
      have e2 : (us.toList.drop off).take 1 = [us[off]] := by
        rw [List.drop_eq_getElem_cons (by simpa using hoff)]
        simp
      rw [e2]
      rfl

theorem equal_mk : ∀ (d : Nat) (t : TypeId) (s : List Leaf), shp P d t = some s → ∀ (xs ys : List AV) (us vs : List Value) (r : Bool), eqCells s xs ys = some r → VRs ι xs us → VRs ι ys vs →
    ∀ (n : Nat), d ≤ n → ∀ w : World, (Op.equalIn n t (mkVal P t us) (mkVal P t vs)).run P w = .ok r w
  | 0, t, s, hs => by simp [shp] at hs
  | d + 1, t, s, hs => by
    intro xs ys us vs r hr hx hy n hn w
    obtain ⟨n, rfl⟩ : ∃ k, n = k + 1 := ⟨n - 1, by omega⟩
    have hlen := eqCells_len hr
    simp only [shp] at hs
    split at hs <;> (try (cases hs; done))
    case h_4 fs hu =>
      split at hs
      · cases hs
      · rename_i hst
        have hst' : P.stoodInHeld t = false := by simpa using hst
        have hfo : P.fieldsOf t = fs := by simp [Program.fieldsOf, hu]
        simp only [mkVal, isStructB, hu, cond_true]
        rw [run_equalIn_struct w n t _ _ (by rw [hfo]; exact hu) hst', hfo]
        have key : ∀ (fl : List Field) (off : Nat) (s' : List Leaf) (r : Bool), shpF P (shp P d) fl off = some s' → eqCells s' (xs.drop off) (ys.drop off) = some r → off + s'.length = xs.length →
            (Op.eqFields n us.toArray vs.toArray fl).run P w = .ok r w := by
          intro fl
          induction fl with
          | nil =>
            intro off s' r h1 h2 h3
            simp only [shpF, Option.some.injEq] at h1
            subst h1
            have e1 : xs.drop off = [] := List.drop_eq_nil_of_le (by simp at h3; omega)
            have e2 : ys.drop off = [] := List.drop_eq_nil_of_le (by simp at h3; omega)
            rw [e1, e2] at h2
            simp only [eqCells, Option.some.injEq] at h2
            subst h2
            rfl
          | cons f fl ih =>
            intro off s' r h1 h2 h3
            simp only [shpF] at h1
            split at h1
            · rename_i hf
              obtain ⟨hf1, rfl⟩ := hf
              cases hg : shp P d f.type with
              | none => simp [hg] at h1
              | some s1 =>
                simp only [hg] at h1
                cases hz : szIs P f.type s1.length with
                | false => simp [hz] at h1
                | true =>
                  simp only [hz, cond_true, Option.map_eq_some_iff] at h1
                  obtain ⟨s2, hs2, rfl⟩ := h1
                  obtain ⟨r1, r2, e1, e2, rfl⟩ := eqCells_append h2
                  simp only [List.length_append] at h3
                  have hxl : us.length = xs.length := hx.1.symm
                  have hyl : vs.length = ys.length := hy.1.symm
                  have p1 := part_mk hg hz us.toArray f.offset (by simp; omega) w
                  have p2 := part_mk hg hz vs.toArray f.offset (by simp; omega) w
                  have p3 := equal_mk d f.type s1 hg _ _ _ _ r1 e1 ((hx.drop f.offset).take s1.length) ((hy.drop f.offset).take s1.length) n (by omega) w
                  have p4 := ih (f.offset + s1.length) s2 r2 hs2 (by rw [List.drop_drop, List.drop_drop] at e2; exact e2) (by omega)
                  simp only at p1 p2
                  simp only [Op.eqFields, if_pos hf1, Sem.run_bind, p1, p2, p3, Result.andThen_ok]
                  cases r1
                  · simp
                  · simpa using p4
            · cases h1
        exact key fs.toList 0 s r hs (by simpa using hr) (by omega)
    all_goals
      rename_i hu
      cases hs
      simp only [List.length_cons, List.length_nil] at hlen
      obtain ⟨x, rfl⟩ := List.length_eq_one_iff.1 hlen.1
      obtain ⟨y, rfl⟩ := List.length_eq_one_iff.1 hlen.2
      obtain ⟨u1, rfl⟩ := List.length_eq_one_iff.1 (hx.1.symm.trans hlen.1)
      obtain ⟨v1, rfl⟩ := List.length_eq_one_iff.1 (hy.1.symm.trans hlen.2)
      have h1 := hx.head
      have h2 := hy.head
      simp only [mkVal, isStructB, hu, cond_false, List.headD_cons]
      cases x <;> (try (simp [eqCells] at hr; done)) <;> cases y <;> (try (simp [eqCells] at hr; done))
      cases h1; cases h2
      simp only [eqCells] at hr
      first
        | (simp only [Option.map_some, Option.some.injEq, Bool.and_true] at hr; subst hr; exact run_equalIn_bool' w n t _ _ hu)
        | (split at hr
           · rename_i hk
             obtain ⟨rfl, rfl⟩ := hk
             simp only [Option.map_some, Option.some.injEq, Bool.and_true] at hr
             subst hr
             rw [run_equalIn_int w n t _ _ _ _ hu]
             rfl
           · cases hr)
        | (simp only [Option.map_some, Option.some.injEq, Bool.and_true] at hr; subst hr; rw [run_equalIn_string w n t _ _ hu, toList_bytes, toList_bytes])

theorem snd_eqC (hm : HR ι m.hv w) (ht : TR ι m.top T a.tmps) (neg : Bool) (t t2 : TypeId) (x y : Operand) (sh : List Leaf) (x' y' : Opd) (ho : o.op = .binOp (eqOp neg) t x y t2) (hx : opdOk x' x = true) (hy : opdOk y' y = true)
    (hs : (match shp P 9 t with | some s => decide (s = sh) | none => false) = true) (hst : isStructB P t = true) (hg : P.eqGuardType P.depth t = false)
    (h : (IK.eqC neg sh x' y').ev T m = some (v, m')) : OpPost P ι m w (execOp a.eval o) v m' := by
  obtain ⟨sx, _⟩ := opd_sound ht hx
  obtain ⟨sy, _⟩ := opd_sound ht hy
  simp only [IK.ev] at h
  generalize x'.ev T = vx at h sx
  generalize y'.ev T = vy at h sy
  generalize hax : a.eval x = ax at sx
  generalize hay : a.eval y = ay at sy
  cases hsh : shp P 9 t with
  | none => simp [hsh] at hs
  | some s =>
    simp only [hsh, decide_eq_true_eq] at hs
    subst hs
    split at h
    · simp only [Option.map_eq_some_iff, Prod.mk.injEq] at h
      obtain ⟨r, hr, rfl, rfl⟩ := h
      have c1 := sx.cells (by simp)
      have c2 := sy.cells (by simp)
      cases sx; cases sy
      rename_i xs ys us _ _ vs _ _
      have he := equal_mk (P := P) 9 t s hsh _ _ _ _ r hr c1 c2 10000 (by omega) w
      simp only [mkVal, hst, cond_true, Value.cells, Array.toArray_toList] at he
      refine eq_post hm neg t t2 x y ho r ?_ ?_ ?_
      · intro op hop; rw [hax, hay]; rcases hop with rfl | rfl <;> simp [binOp]
      · intro op; rw [hax, hay]; exact run_eqGuard_agg w op t x y _ _ hg
      · rw [hax, hay]; exact he
    · cases h

end
end Go.Em
