/- Each instruction of the abstract machine against its operation of the model: lengths, slicing, structs, make, append, copy, comparison of structs. -/
import Derived.Test.YtokhjbkkpbceeaaGreatDoorEf
import Derived.Laws.Slices
namespace Go.Em
open Go
set_option linter.unusedSimpArgs false
set_option linter.unusedVariables false

section
variable {P : Program} {ι : Emb} {m m' : Mem} {w : World} {T : List AV} {a : Act} {v : AV} {o : Oper}

/-! ### Lengths, min, max -/

theorem exec_builtin (b : Builtin) (xs : Array Operand) (ts : Array TypeId) (ho : o.op = .call { callee := .builtin b, args := xs, argTypes := ts }) :
    ∃ cs, execOp a.eval o = builtin b ts o.type cs (xs.map a.eval) := by
  unfold execOp
  simp only [ho, resolve]
  exact ⟨_, rfl⟩

theorem snd_lenT (hm : HR ι m.hv w) (ht : TR ι m.top T a.tmps) (x : Operand) (t : TypeId) (x' : Opd) (ho : o.op = .call { callee := .builtin .len, args := #[x], argTypes := #[t] }) (hx : opdOk x' x = true) (hs : isStr P t = true)
    (h : (IK.lenT x').ev T m = some (v, m')) : OpPost P ι m w (execOp a.eval o) v m' := by
  obtain ⟨sx, _⟩ := opd_sound ht hx
  simp only [IK.ev] at h
  generalize x'.ev T = vx at h sx
  generalize hax : a.eval x = ax at sx
  split at h
  · rename_i l
    cases h; cases sx
    refine .same hm (cv := .int .i64 l.length) ?_ (.i _ _) (bd_i _ _ _)
    obtain ⟨cs, ecs⟩ := exec_builtin (a := a) .len _ _ ho
    rw [ecs]
    simp [builtin, hax, Builtin.len_, run_underlying (isStr_spec hs), goInt]
    simp [ByteArray.size]
  · cases h

theorem snd_lenS (hm : HR ι m.hv w) (ht : TR ι m.top T a.tmps) (x : Operand) (t : TypeId) (x' : Opd) (ho : o.op = .call { callee := .builtin .len, args := #[x], argTypes := #[t] }) (hx : opdOk x' x = true) (hs : isSlice P t = true)
    (h : (IK.lenS x').ev T m = some (v, m')) : OpPost P ι m w (execOp a.eval o) v m' := by
  obtain ⟨sx, _⟩ := opd_sound ht hx
  obtain ⟨d, hd, hb⟩ := und_spec hs
  simp only [IK.ev] at h
  generalize x'.ev T = vx at h sx
  generalize hax : a.eval x = ax at sx
  split at h
  · rename_i n len cap ex
    cases h
    cases d <;> simp at hb
    obtain ⟨q, c, rfl⟩ : ∃ q c, ax = .slice q len c := by
      rcases sx.sl_cases with ⟨_, rfl, _, _, rfl⟩ | ⟨_, _, _, _, _, rfl, _⟩ <;> exact ⟨_, _, rfl⟩
    refine .same hm (cv := .int .i64 len) ?_ (.i _ _) (bd_i _ _ _)
    obtain ⟨cs, ecs⟩ := exec_builtin (a := a) .len _ _ ho
    rw [ecs]
    simp [builtin, hax, Builtin.len_, run_underlying hd, goInt]
  · cases h

theorem snd_lenK (hm : HR ι m.hv w) (x : Operand) (t : TypeId) (n : Nat) (ho : o.op = .call { callee := .builtin .len, args := #[x], argTypes := #[t] })
    (hs : und P t (fun d => match d with | .array n' _ => Nat.beq n' n | _ => false) = true)
    (h : (IK.lenK n).ev T m = some (v, m')) : OpPost P ι m w (execOp a.eval o) v m' := by
  obtain ⟨d, hd, hb⟩ := und_spec hs
  simp only [IK.ev, Option.some.injEq, Prod.mk.injEq] at h
  obtain ⟨rfl, rfl⟩ := h
  cases d <;> simp at hb
  subst hb
  refine .same hm (cv := .int .i64 _) ?_ (.i _ _) (bd_i _ _ _)
  obtain ⟨cs, ecs⟩ := exec_builtin (a := a) .len _ _ ho
  rw [ecs]
  simp [builtin, Builtin.len_, run_underlying hd, goInt]

theorem snd_capS (hm : HR ι m.hv w) (ht : TR ι m.top T a.tmps) (x : Operand) (t : TypeId) (x' : Opd) (ho : o.op = .call { callee := .builtin .cap, args := #[x], argTypes := #[t] }) (hx : opdOk x' x = true) (hs : isSlice P t = true)
    (h : (IK.capS x').ev T m = some (v, m')) : OpPost P ι m w (execOp a.eval o) v m' := by
  obtain ⟨sx, _⟩ := opd_sound ht hx
  obtain ⟨d, hd, hb⟩ := und_spec hs
  simp only [IK.ev] at h
  generalize x'.ev T = vx at h sx
  generalize hax : a.eval x = ax at sx
  split at h
  · rename_i n len cap
    cases h
    cases d <;> simp at hb
    obtain ⟨q, rfl⟩ : ∃ q, ax = .slice q len cap := by
      rcases sx.sl_cases with ⟨_, rfl, rfl, _, rfl⟩ | ⟨_, _, _, c, _, rfl, _, ⟨_, _, h3, _, _⟩ | ⟨_, _, h3⟩⟩
      · exact ⟨_, rfl⟩
      · exact ⟨_, by rw [h3 rfl]⟩
      · cases h3
    refine .same hm (cv := .int .i64 cap) ?_ (.i _ _) (bd_i _ _ _)
    obtain ⟨cs, ecs⟩ := exec_builtin (a := a) .cap _ _ ho
    rw [ecs]
    simp [builtin, hax, Builtin.cap_, run_underlying hd, goInt]
  · cases h

theorem snd_mnmx (hm : HR ι m.hv w) (ht : TR ι m.top T a.tmps) (mx : Bool) (x y : Operand) (ts : Array TypeId) (x' y' : Opd) (ho : o.op = .call { callee := .builtin (bif mx then .max else .min), args := #[x, y], argTypes := ts })
    (hx : opdOk x' x = true) (hy : opdOk y' y = true) (h : (IK.mnmx mx x' y').ev T m = some (v, m')) : OpPost P ι m w (execOp a.eval o) v m' := by
  obtain ⟨sx, _⟩ := opd_sound ht hx
  obtain ⟨sy, _⟩ := opd_sound ht hy
  simp only [IK.ev] at h
  generalize x'.ev T = vx at h sx
  generalize hax : a.eval x = ax at sx
  generalize y'.ev T = vy at h sy
  generalize hay : a.eval y = ay at sy
  split at h
  · split at h
    · cases h; cases sx; cases sy
      rename_i k p k' q hkk
      subst hkk
      refine .same hm (cv := .int k (bif mx then (if q > p then q else p) else (if q < p then q else p))) ?_ (.i _ _) (bd_i _ _ _)
      obtain ⟨cs, ecs⟩ := exec_builtin (a := a) _ _ _ ho
      rw [ecs]
      cases mx
      · simp [builtin, hax, hay, Builtin.min_, Builtin.min2]
      · simp [builtin, hax, hay, Builtin.max_, Builtin.max2]
    · cases h
  · cases h

/-! ### Slicing -/

theorem run_sliceBound' (k : IntKind) (i y : Nat) (code : BoundsCode) (h : i ≤ y) : (Instr.sliceBound (.int k (i : Int)) y code).run P w = .ok i w := by
  have hc : (0 : Int) ≤ (i : Int) ∧ (i : Int) ≤ (y : Int) := by omega
  simp only [Instr.sliceBound, Sem.run_bind, asIntOf, Sem.run_pure, Result.andThen_ok, if_pos hc]
  rfl

/-- An optional bound: absent, or a number. -/
def BoundV (d : Nat) (x : Option Value) (n : Nat) : Prop := (x = none ∧ n = d) ∨ ∃ k, x = some (.int k (n : Int))

theorem run_sliceBounds (isS : Bool) (len cap l h mm : Nat) (lo hi mx : Option Value) (h1 : BoundV 0 lo l) (h2 : BoundV len hi h) (h3 : BoundV cap mx mm) (h4 : mx.isSome = true → hi.isSome = true) (g1 : l ≤ h) (g2 : h ≤ mm) (g3 : mm ≤ cap) :
    (Instr.sliceBounds isS len cap lo hi mx).run P w = .ok (l, h, mm) w := by
  rcases h3 with ⟨rfl, rfl⟩ | ⟨k3, rfl⟩
  · rcases h2 with ⟨rfl, rfl⟩ | ⟨k2, rfl⟩
    · rcases h1 with ⟨rfl, rfl⟩ | ⟨k1, rfl⟩
      · simp [Instr.sliceBounds]
      · simp [Instr.sliceBounds, run_sliceBound' _ _ _ _ g1]
    · rcases h1 with ⟨rfl, rfl⟩ | ⟨k1, rfl⟩
      · simp [Instr.sliceBounds, run_sliceBound' _ _ _ _ g2]
      · simp [Instr.sliceBounds, run_sliceBound' _ _ _ _ g1, run_sliceBound' _ _ _ _ g2]
  · rcases h2 with ⟨rfl, rfl⟩ | ⟨k2, rfl⟩
    · simp at h4
    · rcases h1 with ⟨rfl, rfl⟩ | ⟨k1, rfl⟩
      · simp [Instr.sliceBounds, run_sliceBound' _ _ _ _ g2, run_sliceBound' _ _ _ _ g3]
      · simp [Instr.sliceBounds, run_sliceBound' _ _ _ _ g1, run_sliceBound' _ _ _ _ g2, run_sliceBound' _ _ _ _ g3]

theorem optN_spec {n d k : Nat} (ht : TR ι n T a.tmps) {x : Option Opd} {y : Option Operand} (hx : opdOptOk x y = true) (h : optN d T x = some k) : BoundV d (y.map a.eval) k := by
  cases x with
  | none =>
    cases y with
    | none => simp [optN] at h; exact .inl ⟨rfl, h.symm⟩
    | some y => simp [opdOptOk] at hx
  | some x =>
    cases y with
    | none => simp [opdOptOk] at hx
    | some y =>
      obtain ⟨k', hk⟩ := asN_spec h (opd_sound ht hx).1
      exact .inr ⟨k', by simp [hk]⟩

theorem snd_slcT (hm : HR ι m.hv w) (ht : TR ι m.top T a.tmps) (t : TypeId) (x : Operand) (lo hi : Option Operand) (x' : Opd) (lo' hi' : Option Opd) (ho : o.op = .slice t x lo hi none) (hx : opdOk x' x = true)
    (hl : opdOptOk lo' lo = true) (hh : opdOptOk hi' hi = true) (hs : isStr P t = true) (h : (IK.slcT x' lo' hi').ev T m = some (v, m')) : OpPost P ι m w (execOp a.eval o) v m' := by
  obtain ⟨sx, _⟩ := opd_sound ht hx
  simp only [IK.ev] at h
  generalize x'.ev T = vx at h sx
  generalize hax : a.eval x = ax at sx
  split at h
  · rename_i l
    split at h
    · rename_i p q h1 h2
      cases hc : Nat.ble p q && Nat.ble q l.length with
      | false => simp [hc] at h
      | true =>
        simp only [hc, cond_true, Option.some.injEq, Prod.mk.injEq] at h
        obtain ⟨rfl, rfl⟩ := h
        simp only [Bool.and_eq_true, Nat.ble_eq] at hc
        cases sx
        have hsz : (⟨l.toArray⟩ : ByteArray).size = l.length := by simp [ByteArray.size]
        have b1 := optN_spec ht hl h1
        have b2 := optN_spec ht hh h2
        have hr := run_sliceBounds (P := P) (w := w) false l.length l.length p q l.length _ _ none b1 b2 (.inl ⟨rfl, rfl⟩) (by simp) hc.1 hc.2 (Nat.le_refl _)
        refine .same hm (cv := .string ⟨((l.drop p).take (q - p)).toArray⟩) ?_ (.s _) (bd_s _ _)
        simp only [execOp, ho, hax, Option.map_none]
        refine run_v ?_
        simp only [Instr.sliceAt, Instr.slice, Sem.run_bind, run_underlying (isStr_spec hs), Result.andThen_ok]
        rw [hsz]
        simp only [Option.isSome_none, Bool.false_eq_true, if_false, Sem.run_bind, Sem.run_pure, Result.andThen_ok, hr]
        congr 2
        apply ByteArray.ext
        apply Array.ext'
        simp
    · cases h
  · cases h

theorem VR.slc {b off len cap lo hi : Nat} {ex : Bool} {mx : Option Nat} {r : AV} {ad : Addr} {cap' : Nat} (hsl : VR ι (.sl (some (b, off)) len cap ex) (.slice (some ad) len cap'))
    (h : slcSF (ι b).es b off len cap ex lo hi mx = some r) : lo ≤ hi ∧ hi ≤ mx.getD cap' ∧ mx.getD cap' ≤ cap' ∧
      VR ι r (.slice (if mx.getD cap' = lo then some ad else some (ad.add (lo * (ι b).es))) (hi - lo) (mx.getD cap' - lo)) ∧ ∀ n, b < n → Bd n r := by
  rcases hsl.sl_cases with ⟨hn, _⟩ | ⟨_, _, _, _, hn, he, hle, hor⟩
  · cases hn
  cases hn
  cases he
  unfold slcSF at h
  simp only at h
  cases hc : (Nat.ble lo hi && Nat.ble hi (mx.getD cap) && Nat.ble (mx.getD cap) cap && (ex || Nat.ble 1 cap || mx.isNone)) with
  | false => simp [hc] at h
  | true =>
    simp only [hc, cond_true] at h
    simp only [Bool.and_eq_true, Nat.ble_eq, Bool.or_eq_true] at hc
    obtain ⟨⟨⟨h1, h2⟩, h3⟩, h4⟩ := hc
    have hcap : cap ≤ cap' := by rcases hor with ⟨_, h, _⟩ | ⟨_, rfl, _⟩ <;> omega
    have g2 : hi ≤ mx.getD cap' := by cases mx <;> simp at h2 ⊢ <;> omega
    have g3 : mx.getD cap' ≤ cap' := by cases mx <;> simp at h3 ⊢ <;> omega
    refine ⟨h1, g2, g3, ?_⟩
    cases hl0 : Nat.beq lo 0 with
    | true =>
      obtain rfl := Nat.eq_of_beq_eq_true hl0
      simp only [Nat.beq_refl, cond_true, Option.some.injEq] at h
      subst h
      refine ⟨?_, fun n hn => bd_sl hn⟩
      have e : (if mx.getD cap' = 0 then some ad else some (ad.add (0 * (ι b).es))) = some ad := by simp [Addr.add]
      rw [e]
      rcases hor with ⟨rfl, q1, q2, q3, q0⟩ | ⟨rfl, rfl, rfl⟩
      · refine .sl b off _ _ _ _ q0 g2 ?_ ?_ ?_
        · cases mx <;> simp <;> omega
        · intro he
          cases mx with
          | none => simp at he ⊢; exact q2 he
          | some y => simp
        · have : (mx.getD cap' - 0) * (ι b).es ≤ cap' * (ι b).es := Nat.mul_le_mul_right _ (by omega)
          omega
      · cases mx with
        | none =>
          simp at h2
          subst h2
          exact .se _ _ _ _
        | some y => simp at h4
    | false =>
      have hlo : lo ≠ 0 := fun e => by rw [e] at hl0; simp at hl0
      simp only [hl0, cond_false] at h
      rcases hor with ⟨rfl, q1, q2, q3, q0⟩ | ⟨rfl, rfl, rfl⟩
      rotate_left
      · cases mx with
        | none => simp at h2; omega
        | some y => simp at h4
      have hmul : lo * (ι b).es + (mx.getD cap' - lo) * (ι b).es ≤ cap' * (ι b).es := by
        rw [← Nat.add_mul]; exact Nat.mul_le_mul_right _ (by omega)
      cases hlt : Nat.blt lo hi with
      | true =>
        simp only [hlt, cond_true, Option.some.injEq] at h
        subst h
        have hlt' : lo < hi := by simpa [Nat.blt_eq] using hlt
        refine ⟨?_, fun n hn => bd_sl hn⟩
        rw [if_neg (by omega), add_addr, Nat.add_assoc]
        refine .sl b (off + lo * (ι b).es) _ _ _ _ q0 (by omega) ?_ ?_ (by omega)
        · cases mx <;> simp <;> omega
        · intro he
          cases mx with
          | none => simp at he ⊢; rw [q2 he]
          | some y => simp
      | false =>
        have hge : hi = lo := by
          have : ¬ lo < hi := by rw [← Nat.blt_eq, hlt]; simp
          omega
        subst hge
        simp only [hlt, cond_false] at h
        cases hx : ex || mx.isSome with
        | true =>
          simp only [hx, cond_true, Option.some.injEq] at h
          subst h
          have htop : mx.getD cap = mx.getD cap' := by
            cases mx with
            | none => simp at hx ⊢; rw [q2 hx]
            | some y => rfl
          rw [htop]
          refine ⟨?_, fun n hn => bd_sl hn⟩
          rw [Nat.sub_self]
          by_cases htl : mx.getD cap' = hi
          · rw [if_pos htl, htl]
            simp only [Nat.beq_refl, cond_true, Nat.sub_self]
            exact .sl b off 0 0 true 0 q0 (by omega) (by omega) (fun _ => rfl) (by omega)
          · rw [if_neg htl, beqF htl, add_addr, Nat.add_assoc]
            exact .sl b (off + hi * (ι b).es) 0 _ true _ q0 (by omega) (by omega) (fun _ => rfl) (by omega)
        | false =>
          simp only [hx, cond_false, Option.some.injEq] at h
          subst h
          refine ⟨?_, fun n hn => bd_sl hn⟩
          rw [Nat.sub_self]
          split
          · exact .se _ _ _ _
          · exact .se _ _ _ _

theorem snd_slcS (hm : HR ι m.hv w) (ht : TR ι m.top T a.tmps) (t : TypeId) (es : Nat) (x : Operand) (lo hi mx : Option Operand) (x' : Opd) (lo' hi' mx' : Option Opd) (ho : o.op = .slice t x lo hi mx) (hx : opdOk x' x = true)
    (hl : opdOptOk lo' lo = true) (hh : opdOptOk hi' hi = true) (hmx : opdOptOk mx' mx = true) (hhm : mx'.isSome = true → hi'.isSome = true) (hs : elemIs P t es = true) (h : (IK.slcS es x' lo' hi' mx').ev T m = some (v, m')) :
    OpPost P ι m w (execOp a.eval o) v m' := by
  obtain ⟨sx, sb⟩ := opd_sound ht hx
  obtain ⟨e, i, hd, hiI, rfl⟩ := elemIs_spec hs
  have hhm' : (mx.map a.eval).isSome = true → (hi.map a.eval).isSome = true := by
    cases mx <;> cases mx' <;> simp [opdOptOk] at hmx <;> cases hi <;> cases hi' <;> simp [opdOptOk] at hh <;> simp at hhm ⊢
  simp only [IK.ev] at h
  generalize x'.ev T = vx at h sx sb
  generalize hax : a.eval x = ax at sx
  have fin : ∀ (q : Option Addr) (len cap l hh mm : Nat) (r : AV), ax = .slice q len cap → BoundV 0 (lo.map a.eval) l → BoundV len (hi.map a.eval) hh → BoundV cap (mx.map a.eval) mm → l ≤ hh → hh ≤ mm → mm ≤ cap →
      VR ι r (.slice (if mm = l then q else q.map (·.add (l * i.size))) (hh - l) (mm - l)) → Bd m.top r → OpPost P ι m w (execOp a.eval o) r m := fun q len cap l hh mm r hq b1 b2 b3 g1 g2 g3 hv hbd => by
    refine .same hm ?_ hv hbd
    simp only [execOp, ho, hax, hq]
    refine run_v ?_
    have hr := run_sliceBounds (P := P) (w := w) true len cap l hh mm _ _ _ b1 b2 b3 hhm' g1 g2 g3
    simp only [Instr.sliceAt, Instr.slice, Sem.run_bind, run_underlying hd, Result.andThen_ok, hr, run_sizeOf' hiI, Sem.run_pure]
  split at h
  · rename_i b off len cap ex
    cases hk : m.look b with
    | none => simp [hk] at h
    | some q =>
      simp only [hk] at h
      cases he : Nat.beq q.es i.size with
      | false => simp [he] at h
      | true =>
        simp only [he, cond_true] at h
        split at h
        · rename_i l hn mm h1 h2 h3
          simp only [Option.map_eq_some_iff, Prod.mk.injEq] at h
          obtain ⟨r, hr, rfl, rfl⟩ := h
          obtain ⟨ad, cap', hax'⟩ : ∃ ad cap', ax = .slice (some ad) len cap' := by
            rcases sx.sl_cases with ⟨hn, _⟩ | ⟨_, _, ad, cap', _, he, _⟩
            · cases hn
            · exact ⟨ad, cap', he⟩
          subst hax'
          have hes : (ι b).es = i.size := (hm.blk b q hk).es.trans (Nat.eq_of_beq_eq_true he)
          rw [← hes] at hr
          obtain ⟨g1, g2, g3, g4, g5⟩ := VR.slc sx hr
          have b1 := optN_spec ht hl h1
          have b2 := optN_spec ht hh h2
          have b3 : BoundV cap' (mx.map a.eval) (mm.getD cap') := by
            cases mx' with
            | none =>
              simp at h3
              subst h3
              cases mx with
              | none => exact .inl ⟨rfl, rfl⟩
              | some y => simp [opdOptOk] at hmx
            | some y =>
              cases mx with
              | none => simp [opdOptOk] at hmx
              | some z =>
                simp only [Option.map_eq_some_iff] at h3
                obtain ⟨k, hk, rfl⟩ := h3
                obtain ⟨kk, hkk⟩ := asN_spec hk (opd_sound ht hmx).1
                exact .inr ⟨kk, by simp [hkk]⟩
          rw [hes] at g4
          refine fin (some ad) len cap' l hn (mm.getD cap') r rfl b1 b2 b3 g1 g2 g3 ?_ (g5 _ sb.sl)
          simpa using g4
        · cases h
  · rename_i len cap ex
    split at h
    · rename_i h1 h2 h3
      simp only [Option.some.injEq, Prod.mk.injEq] at h
      obtain ⟨rfl, rfl⟩ := h
      rcases sx.sl_cases with ⟨_, rfl, rfl, _, rfl⟩ | ⟨_, _, _, _, hn, _⟩
      · have b1 := optN_spec ht hl h1
        have b2 := optN_spec ht hh h2
        have b3 := optN_spec ht hmx h3
        refine fin none 0 0 0 0 0 _ rfl b1 b2 b3 (Nat.le_refl _) (Nat.le_refl _) (Nat.le_refl _) ?_ (Bd.leaf fun r hr => by cases hr)
        simp
        exact .sn
      · cases hn
    · cases h
  · cases h

theorem snd_slcA (hm : HR ι m.hv w) (ht : TR ι m.top T a.tmps) (t : TypeId) (n es : Nat) (x : Operand) (lo hi : Option Operand) (x' : Opd) (lo' hi' : Option Opd) (ho : o.op = .slice t x lo hi none) (hx : opdOk x' x = true)
    (hl : opdOptOk lo' lo = true) (hh : opdOptOk hi' hi = true) (hs : arrIs P t n es = true) (h : (IK.slcA n es x' lo' hi').ev T m = some (v, m')) : OpPost P ι m w (execOp a.eval o) v m' := by
  obtain ⟨sx, sb⟩ := opd_sound ht hx
  obtain ⟨e, i, hd, hiI, rfl⟩ := arrIs_spec hs
  simp only [IK.ev] at h
  generalize x'.ev T = vx at h sx sb
  generalize hax : a.eval x = ax at sx
  split at h
  · rename_i b off
    cases hk : m.look b with
    | none => simp [hk] at h
    | some q =>
      simp only [hk] at h
      cases hc : Nat.beq q.es i.size && Nat.beq off 0 && Nat.beq q.cells.length (n * i.size) && !q.ro with
      | false => simp [hc] at h
      | true =>
        simp only [hc, cond_true] at h
        simp only [Bool.and_eq_true, Nat.beq_eq, Bool.not_eq_true'] at hc
        obtain ⟨⟨⟨c1, rfl⟩, c3⟩, c4⟩ := hc
        split at h
        · rename_i l hn h1 h2
          simp only [Option.map_eq_some_iff, Prod.mk.injEq] at h
          obtain ⟨r, hr, rfl, rfl⟩ := h
          cases sx
          obtain ⟨hok, hes, _, c, el, fr, hw1, hw2, hw3, _⟩ := hm.blk b q hk
          obtain ⟨_, _, hsh, hsz⟩ := hw2 c4
          rw [c1] at hes
          rw [← hes] at hr
          have hsl : VR ι (.sl (some (b, 0)) n n true) (.slice (some ⟨(ι b).b, (ι b).sh + 0, none⟩) n n) := by
            refine .sl b 0 n n true n hok (Nat.le_refl _) (Nat.le_refl _) (fun _ => rfl) ?_
            rw [hes, ← hsz, ← c3]; omega
          obtain ⟨g1, g2, g3, g4, g5⟩ := VR.slc hsl hr
          have b1 := optN_spec ht hl h1
          have b2 := optN_spec ht hh h2
          have hrun := run_sliceBounds (P := P) (w := w) false n n l hn n _ _ none b1 b2 (.inl ⟨rfl, rfl⟩) (by simp) g1 g2 (Nat.le_refl _)
          rw [hes] at g4
          refine .same hm ?_ g4 (g5 _ sb.p)
          simp only [execOp, ho, hax, Option.map_none]
          refine run_v ?_
          simp only [Instr.sliceAt, Sem.run_bind, run_underlying hd, Result.andThen_ok, Instr.sureAddr, Sem.run_pure, hrun, run_sizeOf' hiI, Option.getD_none]
          split <;> rfl
        · cases h
  · cases h

end
end Go.Em
