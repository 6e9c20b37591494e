/- Each instruction of the abstract machine against its operation of the model: memory, numbers, strings, structs. -/
import Derived.Test.YtokhjbkkpbceeaaGreatDoorEd
import Derived.Laws.Strings
namespace Go.Em
open Go
set_option linter.unusedSimpArgs false
set_option linter.unusedVariables false

section
variable {P : Program} {ι : Emb} {m m' : Mem} {w : World} {T : List AV} {a : Act} {v : AV} {o : Oper}

theorem run_v {s : Sem Value} {cv : Value} {w' : World} (h : s.run P w = .ok cv w') : (do let x ← s; pure (Next.value x) : Sem Next).run P w = .ok (.value cv) w' := by simp [h]

theorem snd_mv (hm : HR ι m.hv w) (ht : TR ι m.top T a.tmps) (x : Operand) (y : Opd) (ho : o.op = .move x ∨ o.op = .assign x) (hk : opdOk y x = true) (h : (IK.mv y).ev T m = some (v, m')) :
    OpPost P ι m w (execOp a.eval o) v m' := by
  simp only [IK.ev, Option.some.injEq, Prod.mk.injEq] at h
  obtain ⟨rfl, rfl⟩ := h
  have hx := opd_sound ht hk
  refine .same hm (cv := a.eval x) ?_ hx.1 hx.2
  rcases ho with ho | ho <;> simp [execOp, ho]

theorem snd_pick (hm : HR ι m.hv w) (ht : TR ι m.top T a.tmps) (c x y : Operand) (c' x' y' : Opd) (ho : o.op = .pick c x y) (hc : opdOk c' c = true) (hx : opdOk x' x = true) (hy : opdOk y' y = true)
    (h : (IK.pick c' x' y').ev T m = some (v, m')) : OpPost P ι m w (execOp a.eval o) v m' := by
  have sc := opd_sound ht hc
  have sx := opd_sound ht hx
  have sy := opd_sound ht hy
  simp only [IK.ev] at h
  generalize hq : c'.ev T = q at h sc
  cases q <;> (try simp at h)
  rename_i b
  obtain ⟨sc, _⟩ := sc
  generalize hr : a.eval c = r at sc
  cases sc
  cases b <;> simp at h <;> obtain ⟨rfl, rfl⟩ := h
  · exact .same hm (cv := a.eval y) (by simp [execOp, ho, hr, asBool]) sy.1 sy.2
  · exact .same hm (cv := a.eval x) (by simp [execOp, ho, hr, asBool]) sx.1 sx.2

theorem snd_new (hm : HR ι m.hv w) (el : TypeId) (es : Nat) (z : List AV) (ho : o.op = .alloc el) (hz : zeroIs P el z = true) (h : (IK.new el es z).ev T m = some (v, m')) :
    OpPost P ι m w (execOp a.eval o) v m' := by
  simp only [IK.ev, Option.some.injEq, Prod.mk.injEq] at h
  obtain ⟨rfl, rfl⟩ := h
  obtain ⟨i, zv, hi, hzv, hvr, hbd⟩ := zeroIs_spec hz
  refine new_post hm (c := zv.cells) (hvr ι) (hbd _) ?_
  simp only [execOp, ho]
  refine run_v ?_
  simp [Instr.alloc, run_zeroValue' hi hzv, newVar, newRow]

theorem snd_box (hm : HR ι m.hv w) (ht : TR ι m.top T a.tmps) (el : TypeId) (es : Nat) (x : Operand) (y : Opd) (ho : o.op = .box el x) (hx : opdOk y x = true) (h : (IK.box el es y).ev T m = some (v, m')) :
    OpPost P ι m w (execOp a.eval o) v m' := by
  have sx := opd_sound ht hx
  have hu : y.ev T ≠ .u := by intro e; simp [IK.ev, e] at h
  have h' : (v, m') = (.p (some (m.top, 0)), m.push (some { cells := (y.ev T).cells, el := el, es := es, ro := false })) := by
    simp only [IK.ev] at h
    first | exact (Option.some.inj h).symm | (split at h <;> first | cases h; done | simp_all)
  simp only [Prod.mk.injEq] at h'
  obtain ⟨rfl, rfl⟩ := h'
  refine new_post hm (c := (a.eval x).cells) (sx.1.cells hu) (cells_bd sx.2) ?_
  simp only [execOp, ho]
  refine run_v ?_
  simp [Instr.box, newVar, newRow]

theorem snd_ld (hm : HR ι m.hv w) (ht : TR ι m.top T a.tmps) (t : TypeId) (x : Operand) (agg : Bool) (n : Nat) (y : Opd) (ho : o.op = .load t x) (hx : opdOk y x = true) (ha : aggIs P t agg = true) (hs : szIs P t n = true)
    (h : (IK.ld agg n y).ev T m = some (v, m')) : OpPost P ι m w (execOp a.eval o) v m' := by
  have sx := opd_sound ht hx
  simp only [IK.ev] at h
  generalize hq : y.ev T = q at h sx
  obtain ⟨sx, sb⟩ := sx
  cases q <;> (try simp at h)
  rename_i ad
  cases ad with
  | none => simp at h
  | some ad =>
    obtain ⟨b, off⟩ := ad
    simp only at h
    cases hr : rd m b off n with
    | none => simp [hr] at h
    | some vs =>
      simp only [hr] at h
      generalize hax : a.eval x = ax at sx
      cases sx
      obtain ⟨cs, hvs, hbd, hlen, hcell⟩ := rd_spec hm hr
      obtain ⟨i, hi, hin⟩ := szIs_spec hs
      have hl := run_loadCells_list (P := P) w _ cs hcell
      rw [hlen] at hl
      cases agg with
      | true =>
        simp only [cond_true, Option.some.injEq, Prod.mk.injEq] at h
        obtain ⟨rfl, rfl⟩ := h
        refine .same hm (cv := .agg cs.toArray) ?_ hvs.ag (bd_ag hbd)
        simp only [execOp, ho]
        refine run_v ?_
        simp [Instr.loadAt, Instr.sureAddr, hax, loadVar, run_isAgg ha, run_sizeOf' hi, hin, hl]
      | false =>
        simp only [cond_false] at h
        split at h
        · rename_i v'
          simp only [Option.some.injEq, Prod.mk.injEq] at h
          obtain ⟨rfl, rfl⟩ := h
          obtain ⟨cv, hcv, hvr⟩ := hvs.get (k := 0) (x := v') rfl
          refine .same hm (cv := cv) ?_ hvr (hbd _ (by simp))
          simp only [execOp, ho]
          refine run_v ?_
          have h0 := hcell 0 cv hcv
          rw [add_addr] at h0
          simp [Instr.loadAt, Instr.sureAddr, hax, loadVar, run_isAgg ha, run_load]
          simp only [Nat.add_zero] at h0
          rw [h0]
        · cases h

theorem snd_st (hm : HR ι m.hv w) (ht : TR ι m.top T a.tmps) (t : TypeId) (x z : Operand) (n : Nat) (y y2 : Opd) (ho : o.op = .store t x z) (hx : opdOk y x = true) (hz : opdOk y2 z = true) (hs : szIs P t n = true)
    (h : (IK.st n y y2).ev T m = some (v, m')) : OpPost P ι m w (execOp a.eval o) v m' := by
  have sx := opd_sound ht hx
  have sz := opd_sound ht hz
  simp only [IK.ev] at h
  generalize hq : y.ev T = q at h sx
  obtain ⟨sx, sb⟩ := sx
  cases q <;> (try simp at h)
  rename_i ad
  cases ad with
  | none => simp at h
  | some ad =>
    obtain ⟨b, off⟩ := ad
    simp only at h
    have hu : y2.ev T ≠ .u := by intro e; simp [e] at h
    generalize hax : a.eval x = ax at sx
    cases sx
    have h' : (bif Nat.beq (y2.ev T).cells.length n then (wr m b off (y2.ev T).cells).map fun m' => (AV.u, m') else none) = some (v, m') := by
      split at h
      · cases h
      · exact h
    cases c1 : Nat.beq (y2.ev T).cells.length n with
    | false => simp [c1] at h'
    | true =>
      simp only [c1, cond_true, Option.map_eq_some_iff, Prod.mk.injEq] at h'
      obtain ⟨m1, hw, rfl, rfl⟩ := h'
      have hc := sz.1.cells hu
      obtain ⟨w', hrun, hm', hext, _⟩ := wr_spec (P := P) hm hw hc (cells_bd sz.2)
      obtain ⟨i, hi, hin⟩ := szIs_spec hs
      refine ⟨ι, .skip, undef, w', ?_, .inr ⟨rfl, rfl⟩, .u _, Bd.u _, hm', hext⟩
      have hl : (a.eval z).cells.size = n := by
        have := hc.1
        have := Nat.eq_of_beq_eq_true c1
        simp at *; omega
      simp only [execOp, ho]
      simp [Instr.storeAt, Instr.sureAddr, hax, storeVar, run_sizeOf' hi, hin, hl, hrun]

theorem snd_nilChk (hm : HR ι m.hv w) (ht : TR ι m.top T a.tmps) (x : Operand) (y : Opd) (ho : o.op = .nilCheck x) (hx : opdOk y x = true) (h : (IK.nilChk y).ev T m = some (v, m')) :
    OpPost P ι m w (execOp a.eval o) v m' := by
  have sx := opd_sound ht hx
  simp only [IK.ev] at h
  generalize hq : y.ev T = q at h sx
  obtain ⟨sx, sb⟩ := sx
  cases q <;> (try simp at h)
  case p ad =>
    cases ad with
    | none => simp at h
    | some ad =>
      obtain ⟨rfl, rfl⟩ : v = .p (some ad) ∧ m' = m := by simp at h; exact ⟨h.1.symm, h.2.symm⟩
      obtain ⟨b, off⟩ := ad
      generalize hax : a.eval x = ax at sx
      refine .same hm (cv := ax) ?_ sx sb
      cases sx
      simp [execOp, ho, hax]
  case fn f xs ys =>
    cases f <;> simp at h
    obtain ⟨rfl, rfl⟩ := h
    generalize hax : a.eval x = ax at sx
    refine .same hm (cv := ax) ?_ sx sb
    cases sx
    simp [execOp, ho, hax]
  case ifc t z =>
    obtain ⟨rfl, rfl⟩ := h
    generalize hax : a.eval x = ax at sx
    refine .same hm (cv := ax) ?_ sx sb
    cases sx
    simp [execOp, ho, hax]

theorem run_intOp (op : BinOp) (k : IntKind) (x y : Int) {r : AV} (h : binI op k x y = some r) (hns : isSh op = false) (t : TypeId) :
    ∃ cv, (binOp op t (.int k x) (.int k y)).run P w = .ok cv w ∧ (∀ ι, VR ι r cv) ∧ ∀ n, Bd n r := by
  have key : ∀ {s : Sem Value} {cv : Value}, binOp op t (.int k x) (.int k y) = s → s.run P w = .ok cv w → (∀ ι, VR ι r cv) → (∀ n, Bd n r) →
      ∃ cv, (binOp op t (.int k x) (.int k y)).run P w = .ok cv w ∧ (∀ ι, VR ι r cv) ∧ ∀ n, Bd n r := fun e hr h1 h2 => ⟨_, by rw [e]; exact hr, h1, h2⟩
  have hkk : ¬ (k ≠ k) := fun h => h rfl
  cases op
  case shl => simp [isSh] at hns
  case shr => simp [isSh] at hns
  case quo =>
    simp only [binI] at h
    split at h
    · cases h
    · rename_i hy
      cases h
      exact key (s := Op.intDiv .quo k x y) (by simp only [binOp, if_neg hkk]) (by simp only [Op.intDiv, if_neg hy]; rfl) (fun _ => .i _ _) fun _ => bd_i _ _ _
  case rem =>
    simp only [binI] at h
    split at h
    · cases h
    · rename_i hy
      cases h
      exact key (s := Op.intDiv .rem k x y) (by simp only [binOp, if_neg hkk]) (by simp only [Op.intDiv, if_neg hy]; rfl) (fun _ => .i _ _) fun _ => bd_i _ _ _
  case add => cases h; exact key (s := Op.intArith .add k x y) (by simp only [binOp, if_neg hkk]) rfl (fun _ => .i _ _) fun _ => bd_i _ _ _
  case sub => cases h; exact key (s := Op.intArith .sub k x y) (by simp only [binOp, if_neg hkk]) rfl (fun _ => .i _ _) fun _ => bd_i _ _ _
  case mul => cases h; exact key (s := Op.intArith .mul k x y) (by simp only [binOp, if_neg hkk]) rfl (fun _ => .i _ _) fun _ => bd_i _ _ _
  case and => cases h; exact key (s := Op.intBits .and k x y) (by simp only [binOp, if_neg hkk]) rfl (fun _ => .i _ _) fun _ => bd_i _ _ _
  case or => cases h; exact key (s := Op.intBits .or k x y) (by simp only [binOp, if_neg hkk]) rfl (fun _ => .i _ _) fun _ => bd_i _ _ _
  case xor => cases h; exact key (s := Op.intBits .xor k x y) (by simp only [binOp, if_neg hkk]) rfl (fun _ => .i _ _) fun _ => bd_i _ _ _
  case andNot => cases h; exact key (s := Op.intBits .andNot k x y) (by simp only [binOp, if_neg hkk]) rfl (fun _ => .i _ _) fun _ => bd_i _ _ _
  case eql => cases h; exact key (s := Op.intCmp .eql x y) (by simp only [binOp, if_neg hkk]) rfl (fun _ => .b _) fun _ => bd_b _ _
  case neq => cases h; exact key (s := Op.intCmp .neq x y) (by simp only [binOp, if_neg hkk]) rfl (fun _ => .b _) fun _ => bd_b _ _
  case lss => cases h; exact key (s := Op.intCmp .lss x y) (by simp only [binOp, if_neg hkk]) rfl (fun _ => .b _) fun _ => bd_b _ _
  case leq => cases h; exact key (s := Op.intCmp .leq x y) (by simp only [binOp, if_neg hkk]) rfl (fun _ => .b _) fun _ => bd_b _ _
  case gtr => cases h; exact key (s := Op.intCmp .gtr x y) (by simp only [binOp, if_neg hkk]) rfl (fun _ => .b _) fun _ => bd_b _ _
  case geq => cases h; exact key (s := Op.intCmp .geq x y) (by simp only [binOp, if_neg hkk]) rfl (fun _ => .b _) fun _ => bd_b _ _

theorem run_shOp (op : BinOp) (k k' : IntKind) (x y : Int) {r : AV} (h : shI op k x y = some r) (t : TypeId) :
    ∃ cv, (binOp op t (.int k x) (.int k' y)).run P w = .ok cv w ∧ (∀ ι, VR ι r cv) ∧ ∀ n, Bd n r := by
  unfold shI at h
  by_cases hy : y < 0
  · simp [hy] at h
  · rw [if_neg hy] at h
    cases op <;> simp at h
    · subst h
      exact ⟨_, by simp only [binOp, Op.shift, if_neg hy]; rfl, fun _ => .i _ _, fun _ => bd_i _ _ _⟩
    · subst h
      exact ⟨_, by simp only [binOp, Op.shift, if_neg hy]; rfl, fun _ => .i _ _, fun _ => bd_i _ _ _⟩

theorem toList_bytes (x : List UInt8) : (⟨x.toArray⟩ : ByteArray).toList = x := ByteArray.toList_mk x

theorem run_strOp (op : BinOp) (x y : List UInt8) {r : AV} (h : binT op x y = some r) (t : TypeId) :
    ∃ cv, (binOp op t (.string ⟨x.toArray⟩) (.string ⟨y.toArray⟩)).run P w = .ok cv w ∧ (∀ ι, VR ι r cv) ∧ ∀ n, Bd n r := by
  have e : ∀ op, isSh op = false → binOp op t (.string ⟨x.toArray⟩) (.string ⟨y.toArray⟩) = Op.stringOp op ⟨x.toArray⟩ ⟨y.toArray⟩ := by
    intro op hop; cases op <;> first | rfl | simp [isSh] at hop
  cases op <;> simp only [binT] at h <;> (try (cases h; done))
  case add =>
    cases hl : Nat.ble (x.length + y.length) 4611686018427387904 with
    | false => simp [hl] at h
    | true =>
      simp only [hl, cond_true, Option.some.injEq] at h
      subst h
      have hl' := Nat.le_of_ble_eq_true hl
      refine ⟨.string ⟨(x ++ y).toArray⟩, ?_, fun _ => .s _, fun _ => bd_s _ _⟩
      rw [e _ rfl]
      have h1 : ¬ ((((⟨x.toArray⟩ : ByteArray).size + (⟨y.toArray⟩ : ByteArray).size : Nat) : Int) > IntKind.i64.max) := by
        have e1 : (⟨x.toArray⟩ : ByteArray).size = x.length := by simp [ByteArray.size]
        have e2 : (⟨y.toArray⟩ : ByteArray).size = y.length := by simp [ByteArray.size]
        have e3 : IntKind.i64.max = 9223372036854775807 := by decide
        rw [e1, e2, e3]; omega
      simp only [Op.stringOp, if_neg h1]
      have e4 : (⟨x.toArray⟩ ++ ⟨y.toArray⟩ : ByteArray) = ⟨(x ++ y).toArray⟩ := by apply ByteArray.ext; simp
      rw [e4]; rfl
  all_goals
    cases h
    refine ⟨_, by rw [e _ rfl]; simp only [Op.stringOp, toList_bytes]; rfl, fun _ => .b _, fun _ => bd_b _ _⟩

theorem snd_bin (hm : HR ι m.hv w) (ht : TR ι m.top T a.tmps) (op : BinOp) (t t2 : TypeId) (x y : Operand) (x' y' : Opd) (ho : o.op = .binOp op t x y t2) (hx : opdOk x' x = true) (hy : opdOk y' y = true)
    (h : (IK.bin op x' y').ev T m = some (v, m')) : OpPost P ι m w (execOp a.eval o) v m' := by
  have sx := opd_sound ht hx
  have sy := opd_sound ht hy
  simp only [IK.ev, Option.map_eq_some_iff, Prod.mk.injEq] at h
  obtain ⟨r, h, rfl, rfl⟩ := h
  obtain ⟨sx, _⟩ := sx
  obtain ⟨sy, _⟩ := sy
  generalize x'.ev T = vx at h sx
  generalize y'.ev T = vy at h sy
  generalize hax : a.eval x = ax at sx
  generalize hay : a.eval y = ay at sy
  have fin : ∀ cv, (eqGuard op t x y ax ay).run P w = .ok () w → (binOp op t ax ay).run P w = .ok cv w → (∀ ι, VR ι r cv) → (∀ n, Bd n r) → OpPost P ι m w (execOp a.eval o) r m := fun cv hg hr h1 h2 => by
    refine .same hm (cv := cv) ?_ (h1 ι) (h2 _)
    simp only [execOp, ho, hax, hay]
    refine run_v ?_
    simp [hg, hr]
  unfold binF at h
  split at h
  · cases sx; cases sy
    rename_i k x1 k' y1
    have hg : (eqGuard op t x y (.int k x1) (.int k' y1)).run P w = .ok () w := by unfold eqGuard; cases op <;> rfl
    cases hs : isSh op with
    | true =>
      simp only [hs, cond_true] at h
      obtain ⟨cv, h1, h2, h3⟩ := run_shOp (P := P) (w := w) op k k' x1 y1 h t
      exact fin cv hg h1 h2 h3
    | false =>
      simp only [hs, cond_false] at h
      split at h
      · rename_i hk
        subst hk
        obtain ⟨cv, h1, h2, h3⟩ := run_intOp (P := P) (w := w) op k x1 y1 h hs t
        exact fin cv hg h1 h2 h3
      · cases h
  · cases sx; cases sy
    rename_i x1 y1
    have hg : (eqGuard op t x y (.string ⟨x1.toArray⟩) (.string ⟨y1.toArray⟩)).run P w = .ok () w := by unfold eqGuard; cases op <;> rfl
    obtain ⟨cv, h1, h2, h3⟩ := run_strOp (P := P) (w := w) op x1 y1 h t
    exact fin cv hg h1 h2 h3
  · cases h

theorem run_equal_bool {t : TypeId} (hd : P.underlying t = some .bool) (p q : Bool) : (Op.equal t (.bool p) (.bool q)).run P w = .ok (p == q) w := by
  show (Op.equalIn (9999 + 1) t (.bool p) (.bool q)).run P w = _
  generalize 9999 = d
  simp only [Op.equalIn, Sem.run_bind, run_underlying hd, Result.andThen_ok]
  rfl

/-- '==' or '!='. -/
def eqOp (neg : Bool) : BinOp := bif neg then .neq else .eql

theorem eq_post (hm : HR ι m.hv w) (neg : Bool) (t t2 : TypeId) (x y : Operand) (ho : o.op = .binOp (eqOp neg) t x y t2) (r : Bool)
    (hns : ∀ op, op = BinOp.eql ∨ op = BinOp.neq → binOp op t (a.eval x) (a.eval y) = (do let q ← Op.equal t (a.eval x) (a.eval y); pure (.bool (if op = .neq then !q else q))))
    (hg : ∀ op, (eqGuard op t x y (a.eval x) (a.eval y)).run P w = .ok () w) (hr : (Op.equal t (a.eval x) (a.eval y)).run P w = .ok r w) :
    OpPost P ι m w (execOp a.eval o) (xorB neg r) m := by
  refine .same hm (cv := .bool (bif neg then !r else r)) ?_ (.b _) (bd_b _ _)
  simp only [execOp, ho]
  refine run_v ?_
  cases neg
  · have e := hns .eql (.inl rfl)
    simp only [eqOp, cond_false, Sem.run_bind, hg, e, hr, Result.andThen_ok]
    rfl
  · have e := hns .neq (.inr rfl)
    simp only [eqOp, cond_true, Sem.run_bind, hg, e, hr, Result.andThen_ok]
    rfl

theorem snd_eqB (hm : HR ι m.hv w) (ht : TR ι m.top T a.tmps) (neg : Bool) (t t2 : TypeId) (x y : Operand) (x' y' : Opd) (ho : o.op = .binOp (eqOp neg) t x y t2) (hx : opdOk x' x = true) (hy : opdOk y' y = true)
    (hu : und P t (fun d => match d with | .bool => true | _ => false) = true) (h : (IK.eqB neg x' y').ev T m = some (v, m')) : OpPost P ι m w (execOp a.eval o) v m' := by
  obtain ⟨sx, _⟩ := opd_sound ht hx
  obtain ⟨sy, _⟩ := opd_sound ht hy
  simp only [IK.ev] at h
  generalize x'.ev T = vx at h sx
  generalize y'.ev T = vy at h sy
  generalize hax : a.eval x = ax at sx
  generalize hay : a.eval y = ay at sy
  split at h
  · simp only [Option.some.injEq, Prod.mk.injEq] at h
    obtain ⟨rfl, rfl⟩ := h
    cases sx; cases sy
    rename_i p q
    obtain ⟨d, hd, hb⟩ := und_spec hu
    have : d = .bool := by cases d <;> simp at hb <;> rfl
    subst this
    refine eq_post hm neg t t2 x y ho (p == q) ?_ ?_ ?_
    · intro op hop; rw [hax, hay]; rcases hop with rfl | rfl <;> simp [binOp]
    · intro op; rw [hax, hay]; unfold eqGuard; cases op <;> rfl
    · rw [hax, hay]; exact run_equal_bool hd p q
  · cases h

end
end Go.Em
