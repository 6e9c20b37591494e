/- Each instruction of the abstract machine against its operation of the model: addresses, slices, parts. -/
import Derived.Test.YtokhjbkkpbceeaaGreatDoorEe
namespace Go.Em
open Go
set_option linter.unusedSimpArgs false
set_option linter.unusedVariables false

section
variable {P : Program} {ι : Emb} {m m' : Mem} {w : World} {T : List AV} {a : Act} {v : AV} {o : Oper}

/-! ### Comparisons of addresses and of slices with nil -/

theorem run_equal_ptr_nil {t e : TypeId} (hd : P.underlying t = some (.pointer e)) (q : Option Addr) : (Op.equal t (.pointer none) (.pointer q)).run P w = .ok q.isNone w := by
  show (Op.equalIn (9999 + 1) t _ _).run P w = _
  generalize 9999 = d
  simp only [Op.equalIn, Sem.run_bind, run_underlying hd, Result.andThen_ok]
  rfl
theorem run_equal_nil_ptr {t e : TypeId} (hd : P.underlying t = some (.pointer e)) (q : Addr) : (Op.equal t (.pointer (some q)) (.pointer none)).run P w = .ok false w := by
  show (Op.equalIn (9999 + 1) t _ _).run P w = _
  generalize 9999 = d
  simp only [Op.equalIn, Sem.run_bind, run_underlying hd, Result.andThen_ok]
  rfl
theorem run_equal_ptr_same {t e : TypeId} {i : TypeInfo} (hd : P.underlying t = some (.pointer e)) (hi : P.info? e = some i) (hs : i.size ≠ 0) (b x y : Nat) :
    (Op.equal t (.pointer (some ⟨b, x, none⟩)) (.pointer (some ⟨b, y, none⟩))).run P w = .ok (decide (x = y)) w := by
  show (Op.equalIn (9999 + 1) t _ _).run P w = _
  generalize 9999 = d
  simp only [Op.equalIn, Sem.run_bind, run_underlying hd, Result.andThen_ok, run_sizeOf' hi]
  rw [if_pos hs]
  simp [sameAddr]
  by_cases h : x = y
  · subst h; simp
  · have : ¬ ((⟨b, x, none⟩ : Addr) = ⟨b, y, none⟩) := by intro e; injection e; contradiction
    simp [h]
theorem run_equal_slice_nil {t e : TypeId} (hd : P.underlying t = some (.slice e)) (l c : Nat) (q : Option Addr) (l2 c2 : Nat) : (Op.equal t (.slice none l c) (.slice q l2 c2)).run P w = .ok q.isNone w := by
  show (Op.equalIn (9999 + 1) t _ _).run P w = _
  generalize 9999 = d
  simp only [Op.equalIn, Sem.run_bind, run_underlying hd, Result.andThen_ok]
  rfl
theorem run_equal_nil_slice {t e : TypeId} (hd : P.underlying t = some (.slice e)) (q : Addr) (l c : Nat) (l2 c2 : Nat) : (Op.equal t (.slice (some q) l c) (.slice none l2 c2)).run P w = .ok false w := by
  show (Op.equalIn (9999 + 1) t _ _).run P w = _
  generalize 9999 = d
  simp only [Op.equalIn, Sem.run_bind, run_underlying hd, Result.andThen_ok]
  rfl

def isPtrSized (P : Program) (t : TypeId) : Bool := und P t fun d => match d with
  | .pointer e => (match P.info? e with | some i => !Nat.beq i.size 0 | none => false)
  | _ => false
def isSlice (P : Program) (t : TypeId) : Bool := und P t fun d => match d with | .slice _ => true | _ => false

theorem snd_eqP (hm : HR ι m.hv w) (ht : TR ι m.top T a.tmps) (neg : Bool) (t t2 : TypeId) (x y : Operand) (x' y' : Opd) (ho : o.op = .binOp (eqOp neg) t x y t2) (hx : opdOk x' x = true) (hy : opdOk y' y = true)
    (hu : isPtrSized P t = true) (h : (IK.eqP neg x' y').ev T m = some (v, m')) : OpPost P ι m w (execOp a.eval o) v m' := by
  obtain ⟨sx, _⟩ := opd_sound ht hx
  obtain ⟨sy, _⟩ := opd_sound ht hy
  obtain ⟨d, hd, hb⟩ := und_spec hu
  simp only [IK.ev] at h
  generalize x'.ev T = vx at h sx
  generalize y'.ev T = vy at h sy
  generalize hax : a.eval x = ax at sx
  generalize hay : a.eval y = ay at sy
  cases d <;> simp only at hb <;> (try (cases hb; done))
  rename_i e
  cases hi : P.info? e with
  | none => simp [hi] at hb
  | some i =>
    simp only [hi, Bool.not_eq_true'] at hb
    have hs : i.size ≠ 0 := fun e => by rw [e] at hb; simp at hb
    have fin : ∀ r, ax.cells = #[ax] → (∀ op, op = BinOp.eql ∨ op = BinOp.neq → binOp op t ax ay = (do let q ← Op.equal t ax ay; pure (.bool (if op = .neq then !q else q)))) →
        (∀ op, (eqGuard op t x y ax ay).run P w = .ok () w) → (Op.equal t ax ay).run P w = .ok r w → OpPost P ι m w (execOp a.eval o) (xorB neg r) m := fun r _ h1 h2 h3 =>
      eq_post hm neg t t2 x y ho r (by rw [hax, hay]; exact h1) (by rw [hax, hay]; exact h2) (by rw [hax, hay]; exact h3)
    split at h
    · simp only [Option.some.injEq, Prod.mk.injEq] at h; obtain ⟨rfl, rfl⟩ := h
      cases sx; cases sy
      refine fin _ rfl ?_ ?_ (run_equal_ptr_nil hd none)
      · intro op hop; rcases hop with rfl | rfl <;> simp [binOp]
      · intro op; unfold eqGuard; cases op <;> rfl
    · simp only [Option.some.injEq, Prod.mk.injEq] at h; obtain ⟨rfl, rfl⟩ := h
      cases sx; cases sy
      refine fin _ rfl ?_ ?_ (run_equal_nil_ptr hd _)
      · intro op hop; rcases hop with rfl | rfl <;> simp [binOp]
      · intro op; unfold eqGuard; cases op <;> rfl
    · simp only [Option.some.injEq, Prod.mk.injEq] at h; obtain ⟨rfl, rfl⟩ := h
      cases sx; cases sy
      refine fin _ rfl ?_ ?_ (run_equal_ptr_nil hd _)
      · intro op hop; rcases hop with rfl | rfl <;> simp [binOp]
      · intro op; unfold eqGuard; cases op <;> rfl
    · rename_i p q p' q'
      cases hp : Nat.beq p p' with
      | false => simp [hp] at h
      | true =>
        simp only [hp, cond_true, Option.some.injEq, Prod.mk.injEq] at h; obtain ⟨rfl, rfl⟩ := h
        obtain rfl := Nat.eq_of_beq_eq_true hp
        cases sx; cases sy
        have e : Nat.beq q q' = decide ((ι p).sh + q = (ι p).sh + q') := by
          rw [Bool.eq_iff_iff]; simp
        rw [e]
        refine fin _ rfl ?_ ?_ (run_equal_ptr_same hd hi hs _ _ _)
        · intro op hop; rcases hop with rfl | rfl <;> simp [binOp]
        · intro op; unfold eqGuard; cases op <;> rfl
    · cases h

theorem VR.sl_cases {n : Option (Nat × Nat)} {len cap : Nat} {ex : Bool} {y : Value} (h : VR ι (.sl n len cap ex) y) :
    (n = none ∧ len = 0 ∧ cap = 0 ∧ ex = true ∧ y = .slice none 0 0) ∨ (∃ b off ad cap', n = some (b, off) ∧ y = .slice (some ad) len cap' ∧ len ≤ cap' ∧
      ((ad = ⟨(ι b).b, (ι b).sh + off, none⟩ ∧ cap ≤ cap' ∧ (ex = true → cap' = cap) ∧ (ι b).sh + off + cap' * (ι b).es ≤ (ι b).sz ∧ (ι b).ok = true) ∨ (len = 0 ∧ cap = 0 ∧ ex = false))) := by
  cases h with
  | sn => exact .inl ⟨rfl, rfl, rfl, rfl, rfl⟩
  | sl b off _ _ _ cap' h0 h1 h2 h3 h4 => exact .inr ⟨b, off, _, cap', rfl, rfl, h1, .inl ⟨rfl, h2, h3, h4, h0⟩⟩
  | se b off ad cap' => exact .inr ⟨b, off, ad, cap', rfl, rfl, Nat.zero_le _, .inr ⟨rfl, rfl, rfl⟩⟩

theorem snd_eqS (hm : HR ι m.hv w) (ht : TR ι m.top T a.tmps) (neg : Bool) (t t2 : TypeId) (x y : Operand) (x' y' : Opd) (ho : o.op = .binOp (eqOp neg) t x y t2) (hx : opdOk x' x = true) (hy : opdOk y' y = true)
    (hu : isSlice P t = true) (h : (IK.eqS neg x' y').ev T m = some (v, m')) : OpPost P ι m w (execOp a.eval o) v m' := by
  obtain ⟨sx, _⟩ := opd_sound ht hx
  obtain ⟨sy, _⟩ := opd_sound ht hy
  obtain ⟨d, hd, hb⟩ := und_spec hu
  simp only [IK.ev] at h
  generalize x'.ev T = vx at h sx
  generalize y'.ev T = vy at h sy
  generalize hax : a.eval x = ax at sx
  generalize hay : a.eval y = ay at sy
  cases d <;> simp only at hb <;> (try (cases hb; done))
  rename_i e
  have fin : ∀ r l1 c1 l2 c2 q1 q2, ax = .slice q1 l1 c1 → ay = .slice q2 l2 c2 → (Op.equal t ax ay).run P w = .ok r w → OpPost P ι m w (execOp a.eval o) (xorB neg r) m := fun r l1 c1 l2 c2 q1 q2 e1 e2 h3 => by
    refine eq_post hm neg t t2 x y ho r ?_ ?_ (by rw [hax, hay]; exact h3)
    · intro op hop; rw [hax, hay, e1, e2]; rcases hop with rfl | rfl <;> simp [binOp]
    · intro op; rw [hax, hay, e1, e2]; unfold eqGuard; cases op <;> rfl
  split at h
  · simp only [Option.some.injEq, Prod.mk.injEq] at h; obtain ⟨rfl, rfl⟩ := h
    rcases sx.sl_cases with ⟨_, _, _, _, rfl⟩ | ⟨_, _, _, _, hn, _⟩
    · rcases sy.sl_cases with ⟨rfl, _, _, _, rfl⟩ | ⟨_, _, _, _, rfl, rfl, _⟩
      · exact fin _ _ _ _ _ _ _ rfl rfl (run_equal_slice_nil hd _ _ _ _ _)
      · exact fin _ _ _ _ _ _ _ rfl rfl (run_equal_slice_nil hd _ _ _ _ _)
    · cases hn
  · simp only [Option.some.injEq, Prod.mk.injEq] at h; obtain ⟨rfl, rfl⟩ := h
    rcases sx.sl_cases with ⟨hn, _⟩ | ⟨_, _, _, _, _, rfl, _⟩
    · cases hn
    · rcases sy.sl_cases with ⟨_, _, _, _, rfl⟩ | ⟨_, _, _, _, hn, _⟩
      · exact fin _ _ _ _ _ _ _ rfl rfl (run_equal_nil_slice hd _ _ _ _ _)
      · cases hn
  · cases h

/-! ### Conversions, unary operations, interfaces, functions -/

theorem snd_un (hm : HR ι m.hv w) (ht : TR ι m.top T a.tmps) (op : UnOp) (t : TypeId) (x : Operand) (x' : Opd) (ho : o.op = .unOp op t x) (hx : opdOk x' x = true) (h : (IK.un op x').ev T m = some (v, m')) :
    OpPost P ι m w (execOp a.eval o) v m' := by
  obtain ⟨sx, _⟩ := opd_sound ht hx
  simp only [IK.ev, Option.map_eq_some_iff, Prod.mk.injEq] at h
  obtain ⟨r, h, rfl, rfl⟩ := h
  generalize x'.ev T = vx at h sx
  generalize hax : a.eval x = ax at sx
  unfold unF at h
  split at h
  · cases h; cases sx
    exact .same hm (cv := _) (by simp only [execOp, ho, hax]; exact run_v (cv := .int _ _) rfl) (.i _ _) (bd_i _ _ _)
  · cases h; cases sx
    exact .same hm (cv := _) (by simp only [execOp, ho, hax]; exact run_v (cv := .int _ _) rfl) (.i _ _) (bd_i _ _ _)
  · cases h; cases sx
    exact .same hm (cv := _) (by simp only [execOp, ho, hax]; exact run_v (cv := .bool _) rfl) (.b _) (bd_b _ _)
  · cases h

def isInt (P : Program) (t : TypeId) (k : IntKind) : Bool := und P t fun d => match d with | .int k' => decide (k' = k) | _ => false
theorem isInt_spec {t : TypeId} {k : IntKind} (h : isInt P t k = true) : P.underlying t = some (.int k) := by
  obtain ⟨d, hd, hb⟩ := und_spec h
  cases d <;> simp at hb
  subst hb; exact hd
def isStr (P : Program) (t : TypeId) : Bool := und P t fun d => match d with | .string => true | _ => false
theorem isStr_spec {t : TypeId} (h : isStr P t = true) : P.underlying t = some .string := by
  obtain ⟨d, hd, hb⟩ := und_spec h
  cases d <;> simp at hb
  exact hd
def isBytes (P : Program) (t : TypeId) : Bool := und P t fun d => match d with | .slice e => isInt P e .u8 | _ => false
theorem isBytes_spec {t : TypeId} (h : isBytes P t = true) : ∃ e, P.underlying t = some (.slice e) ∧ P.underlying e = some (.int .u8) := by
  obtain ⟨d, hd, hb⟩ := und_spec h
  cases d <;> simp at hb
  exact ⟨_, hd, isInt_spec hb⟩

theorem snd_conv (hm : HR ι m.hv w) (ht : TR ι m.top T a.tmps) (s t : TypeId) (k : IntKind) (x : Operand) (x' : Opd) (ho : o.op = .convert s t x) (hx : opdOk x' x = true) (hs : und P s (fun _ => true) = true) (hk : isInt P t k = true)
    (h : (IK.conv k x').ev T m = some (v, m')) : OpPost P ι m w (execOp a.eval o) v m' := by
  obtain ⟨sx, _⟩ := opd_sound ht hx
  simp only [IK.ev] at h
  generalize x'.ev T = vx at h sx
  generalize hax : a.eval x = ax at sx
  split at h
  · cases h; cases sx
    obtain ⟨d, hd, _⟩ := und_spec hs
    refine .same hm (cv := .int k (k.wrap _)) ?_ (.i _ _) (bd_i _ _ _)
    simp only [execOp, ho, hax]
    refine run_v ?_
    simp only [convert, Sem.run_bind, run_underlying hd, run_underlying (isInt_spec hk), Result.andThen_ok]
    cases d <;> rfl
  · cases h

theorem bytesOf_spec : ∀ {vs : List AV} {l : List UInt8} {cs : List Value}, bytesOf vs = some l → VRs ι vs cs → ∃ ns : List Int, cs = ns.map (Value.int .u8) ∧ l = ns.map fun n => UInt8.ofNat n.toNat
  | [], l, cs, h, hv => by
    simp only [bytesOf, Option.some.injEq] at h
    subst h
    have := hv.1
    obtain rfl : cs = [] := by simpa using this.symm
    exact ⟨[], rfl, rfl⟩
  | x :: vs, l, cs, h, hv => by
    cases cs with
    | nil => have := hv.1; simp at this
    | cons c cs =>
      unfold bytesOf at h
      split at h
      · rename_i heq; cases heq
      rotate_left
      · cases h
      rename_i n r heq
      cases heq
      simp only [Option.map_eq_some_iff] at h
      obtain ⟨q, hq, rfl⟩ := h
      obtain ⟨ns, rfl, rfl⟩ := bytesOf_spec hq hv.tail
      have := hv.head
      cases this
      exact ⟨n :: ns, rfl, rfl⟩

theorem foldl_push : ∀ (ns : List Int) (s : ByteArray), ns.foldl (fun r n => r.push (UInt8.ofNat n.toNat)) s = ⟨(s.data.toList ++ ns.map fun n => UInt8.ofNat n.toNat).toArray⟩
  | [], s => by simp
  | n :: ns, s => by
    rw [List.foldl_cons, foldl_push ns]
    apply ByteArray.ext
    simp [ByteArray.push]

theorem snd_bts (hm : HR ι m.hv w) (ht : TR ι m.top T a.tmps) (s t : TypeId) (x : Operand) (x' : Opd) (ho : o.op = .convert s t x) (hx : opdOk x' x = true) (hs : isBytes P s = true) (hk : isStr P t = true)
    (h : (IK.bts x').ev T m = some (v, m')) : OpPost P ι m w (execOp a.eval o) v m' := by
  obtain ⟨sx, _⟩ := opd_sound ht hx
  obtain ⟨e, he, he8⟩ := isBytes_spec hs
  simp only [IK.ev] at h
  generalize x'.ev T = vx at h sx
  generalize hax : a.eval x = ax at sx
  have fin : ∀ (l : List UInt8) (q : Option Addr) (n c : Nat), ax = .slice q n c → (Conv.bytesToString (.slice q n c)).run P w = .ok (.string ⟨l.toArray⟩) w → OpPost P ι m w (execOp a.eval o) (.s l) m := fun l q n c e hr => by
    refine .same hm (cv := .string ⟨l.toArray⟩) ?_ (.s _) (bd_s _ _)
    simp only [execOp, ho, hax, e]
    refine run_v ?_
    rw [run_convert_bytes_string w s t _ q n c he he8 (isStr_spec hk)]
    exact hr
  have empty : ∀ (q : Option Addr) (c : Nat), (Conv.bytesToString (.slice q 0 c)).run P w = .ok (.string ⟨#[]⟩) w := fun q c => by
    cases q with
    | none => rfl
    | some ad =>
      have h0 : (loadCells ad 0).run P w = .ok ((([] : List Int)).map (Value.int .u8)).toArray w := rfl
      have := run_bytesToString (P := P) w ad 0 c [] h0
      exact this
  split at h
  · cases h
    rcases sx.sl_cases with ⟨_, _, _, _, rfl⟩ | ⟨_, _, _, _, hn, _⟩
    · exact fin [] none 0 0 rfl (empty _ _)
    · cases hn
  · rename_i b off len _ _
    rcases sx.sl_cases with ⟨hn, _⟩ | ⟨_, _, ad, cap', hn, rfl, _, hor⟩
    · cases hn
    · cases hn
      cases hl : Nat.beq len 0 with
      | true =>
        obtain rfl := Nat.eq_of_beq_eq_true hl
        simp only [Nat.beq_refl, cond_true, Option.some.injEq, Prod.mk.injEq] at h
        obtain ⟨rfl, rfl⟩ := h
        exact fin [] _ 0 _ rfl (empty _ _)
      | false =>
        simp only [hl, cond_false] at h
        rcases hor with ⟨rfl, _⟩ | ⟨rfl, _⟩
        · cases hr : rd m b off len with
          | none => simp [hr] at h
          | some vs =>
            simp only [hr, Option.map_eq_some_iff, Prod.mk.injEq] at h
            obtain ⟨l, hl2, rfl, rfl⟩ := h
            obtain ⟨cs, hvs, _, hlen, hcell⟩ := rd_spec hm hr
            obtain ⟨ns, rfl, rfl⟩ := bytesOf_spec hl2 hvs
            have hload := run_loadCells_list (P := P) w _ _ hcell
            rw [hlen] at hload
            have h3 := run_bytesToString (P := P) w _ len cap' ns hload
            rw [foldl_push] at h3
            refine fin _ _ _ _ rfl ?_
            rw [h3]
            simp
        · simp at hl
  · cases h

theorem snd_sts (hm : HR ι m.hv w) (ht : TR ι m.top T a.tmps) (s t : TypeId) (x : Operand) (x' : Opd) (ho : o.op = .convert s t x) (hx : opdOk x' x = true) (hs : isStr P s = true) (hk : isStr P t = true)
    (h : (IK.sts x').ev T m = some (v, m')) : OpPost P ι m w (execOp a.eval o) v m' := by
  obtain ⟨sx, _⟩ := opd_sound ht hx
  simp only [IK.ev] at h
  generalize x'.ev T = vx at h sx
  generalize hax : a.eval x = ax at sx
  split at h
  · cases h; cases sx
    refine .same hm ?_ (.s _) (bd_s _ _)
    simp only [execOp, ho, hax]
    refine run_v ?_
    simp only [convert, Sem.run_bind, run_underlying (isStr_spec hs), run_underlying (isStr_spec hk), Result.andThen_ok]
    rfl
  · cases h

def notIface (P : Program) (t : TypeId) : Bool := und P t fun d => match d with | .interface _ => false | _ => true
theorem snd_mkI (hm : HR ι m.hv w) (ht : TR ι m.top T a.tmps) (t : TypeId) (x : Operand) (x' : Opd) (ho : o.op = .makeInterface t x) (hx : opdOk x' x = true) (hs : notIface P t = true)
    (h : (IK.mkI t x').ev T m = some (v, m')) : OpPost P ι m w (execOp a.eval o) v m' := by
  obtain ⟨sx, sb⟩ := opd_sound ht hx
  obtain ⟨d, hd, hb⟩ := und_spec hs
  have h' : v = .ifc t (x'.ev T) ∧ m' = m := by
    simp only [IK.ev] at h
    split at h
    · cases h
    · simp at h; exact ⟨h.1.symm, h.2.symm⟩
  obtain ⟨rfl, rfl⟩ := h'
  refine .same hm (cv := .iface t (a.eval x)) ?_ (.ifc _ _ _ sx) (fun r hr => by cases hr with | ifc _ _ hr => exact sb r hr)
  simp only [execOp, ho]
  refine run_v ?_
  simp only [Instr.makeInterface, Sem.run_bind, run_underlying hd, Result.andThen_ok]
  cases d <;> simp at hb <;> rfl

def fnOk : Fn → Fn → Bool
  | .func f, .func g => Nat.beq f g
  | .method f, .method g => decide (f = g)
  | _, _ => false
theorem fnOk_spec {f g : Fn} (h : fnOk f g = true) : f = g := by
  cases f <;> cases g <;> simp [fnOk] at h <;> rw [h]

theorem fnOk_tame {f g : Fn} (h : fnOk f g = true) : tame f = true := by
  cases f <;> cases g <;> simp [fnOk] at h <;> rfl
theorem snd_mkF (hm : HR ι m.hv w) (ht : TR ι m.top T a.tmps) (f f' : Fn) (xs ys : Array Operand) (xs' ys' : List Opd) (ho : o.op = .makeFunc f xs ys) (hf : fnOk f' f = true) (hx : opdsOk xs' xs.toList = true) (hy : opdsOk ys' ys.toList = true)
    (h : (IK.mkF f' xs' ys').ev T m = some (v, m')) : OpPost P ι m w (execOp a.eval o) v m' := by
  obtain rfl := fnOk_spec hf
  have sx := opds_sound ht hx
  have sy := opds_sound ht hy
  simp only [IK.ev, Option.some.injEq, Prod.mk.injEq] at h
  obtain ⟨rfl, rfl⟩ := h
  refine .same hm (cv := .func f' (xs.map a.eval) (ys.map a.eval)) ?_ ?_ ?_
  · simp only [execOp, ho]; exact run_v rfl
  · refine .fn _ _ _ _ _ (fnOk_tame hf) (by simpa using sx.1.1) (by simpa using sy.1.1) (fun k x y h1 h2 => sx.1.2 k x y h1 ?_) (fun k x y h1 h2 => sy.1.2 k x y h1 ?_)
    · rw [← Array.getElem?_toList] at h2; simpa using h2
    · rw [← Array.getElem?_toList] at h2; simpa using h2
  · intro r hr
    cases hr with
    | yl _ _ => have := fnOk_tame hf; simp [tame] at this
    | fn1 _ _ _ x hx' hr => exact sx.2 x hx' r hr
    | fn2 _ _ _ x hx' hr => exact sy.2 x hx' r hr

/-! ### Addresses -/

theorem asN_spec {x : AV} {k : Nat} {y : Value} (h : asN x = some k) (hv : VR ι x y) : ∃ kk, y = .int kk (k : Int) := by
  unfold asN at h
  split at h
  · split at h
    · simp only [Option.some.injEq] at h
      cases hv
      rename_i kk n hn
      exact ⟨kk, by rw [← h, Int.toNat_of_nonneg hn]⟩
    · cases h
  · cases h

def fieldIs (P : Program) (s : TypeId) (f off : Nat) : Bool := und P s fun d => match d with
  | .struct fs => (match fs[f]? with | some q => Nat.beq q.offset off && (match P.info? q.type with | some i => !Nat.beq i.size 0 | none => false) | none => false)
  | _ => false

theorem snd_fad (hm : HR ι m.hv w) (ht : TR ι m.top T a.tmps) (s : TypeId) (x : Operand) (f off : Nat) (x' : Opd) (ho : o.op = .fieldAddr s x f) (hx : opdOk x' x = true) (hs : fieldIs P s f off = true)
    (h : (IK.fad off x').ev T m = some (v, m')) : OpPost P ι m w (execOp a.eval o) v m' := by
  obtain ⟨sx, sb⟩ := opd_sound ht hx
  obtain ⟨d, hd, hb⟩ := und_spec hs
  simp only [IK.ev] at h
  generalize x'.ev T = vx at h sx sb
  generalize hax : a.eval x = ax at sx
  split at h
  · rename_i b o'
    cases h; cases sx
    rename_i hok
    cases d <;> simp only at hb <;> (try (cases hb; done))
    rename_i fs
    cases hq : fs[f]? with
    | none => simp [hq] at hb
    | some q =>
      simp only [hq, Bool.and_eq_true, Nat.beq_eq] at hb
      obtain ⟨rfl, hb⟩ := hb
      cases hi : P.info? q.type with
      | none => simp [hi] at hb
      | some i =>
        simp only [hi, Bool.not_eq_true'] at hb
        have hne : ¬ i.size = 0 := fun e => by rw [e] at hb; simp at hb
        have e := VR.p (ι := ι) b (o' + q.offset) hok
        refine .same hm (cv := .pointer (some ⟨(ι b).b, (ι b).sh + (o' + q.offset), none⟩)) ?_ e (bd_p sb.p)
        simp only [execOp, ho, hax]
        refine run_v ?_
        simp only [Instr.fieldAt, Sem.run_bind, run_underlying hd, Result.andThen_ok, hq, Instr.sureAddr, Sem.run_pure, fieldPlace, run_sizeOf' hi, if_neg hne, add_addr]
        rw [Nat.add_assoc]
  · cases h

def elemIs (P : Program) (t : TypeId) (es : Nat) : Bool := und P t fun d => match d with | .slice e => szIs P e es | _ => false
theorem elemIs_spec {t : TypeId} {es : Nat} (h : elemIs P t es = true) : ∃ e i, P.underlying t = some (.slice e) ∧ P.info? e = some i ∧ i.size = es := by
  obtain ⟨d, hd, hb⟩ := und_spec h
  cases d <;> simp only at hb <;> (try (cases hb; done))
  obtain ⟨i, hi, hs⟩ := szIs_spec hb
  exact ⟨_, i, hd, hi, hs⟩
def arrIs (P : Program) (t : TypeId) (n es : Nat) : Bool := und P t fun d => match d with | .array n' e => Nat.beq n' n && szIs P e es | _ => false
theorem arrIs_spec {t : TypeId} {n es : Nat} (h : arrIs P t n es = true) : ∃ e i, P.underlying t = some (.array n e) ∧ P.info? e = some i ∧ i.size = es := by
  obtain ⟨d, hd, hb⟩ := und_spec h
  cases d <;> simp only at hb <;> (try (cases hb; done))
  simp only [Bool.and_eq_true, Nat.beq_eq] at hb
  obtain ⟨rfl, hb⟩ := hb
  obtain ⟨i, hi, hs⟩ := szIs_spec hb
  exact ⟨_, i, hd, hi, hs⟩

theorem snd_iadS (hm : HR ι m.hv w) (ht : TR ι m.top T a.tmps) (t : TypeId) (x y : Operand) (es : Nat) (x' y' : Opd) (ho : o.op = .indexAddr t x y) (hx : opdOk x' x = true) (hy : opdOk y' y = true) (hs : elemIs P t es = true)
    (h : (IK.iadS es x' y').ev T m = some (v, m')) : OpPost P ι m w (execOp a.eval o) v m' := by
  obtain ⟨sx, sb⟩ := opd_sound ht hx
  obtain ⟨sy, _⟩ := opd_sound ht hy
  obtain ⟨e, i, hd, hi, rfl⟩ := elemIs_spec hs
  simp only [IK.ev] at h
  generalize x'.ev T = vx at h sx sb
  generalize hax : a.eval x = ax at sx
  split at h
  · rename_i b off len cap ex
    cases hk : asN (y'.ev T) with
    | none => simp [hk] at h
    | some k =>
      simp only [hk] at h
      obtain ⟨kk, hkk⟩ := asN_spec hk sy
      cases hlt : Nat.blt k len with
      | false => simp [hlt] at h
      | true =>
        simp only [hlt, cond_true, Option.some.injEq, Prod.mk.injEq] at h
        obtain ⟨rfl, rfl⟩ := h
        have hlt' : k < len := by simpa [Nat.blt_eq] using hlt
        rcases sx.sl_cases with ⟨hn, _⟩ | ⟨_, _, ad, cap', hn, rfl, _, hor⟩
        · cases hn
        · cases hn
          rcases hor with ⟨rfl, _, _, _, hok⟩ | ⟨rfl, _⟩
          · have e1 := VR.p (ι := ι) b (off + k * i.size) hok
            refine .same hm (cv := .pointer (some ⟨(ι b).b, (ι b).sh + (off + k * i.size), none⟩)) ?_ e1 (bd_p sb.sl)
            simp only [execOp, ho, hax, hkk]
            refine run_v ?_
            have hc : (0 : Int) ≤ (k : Int) ∧ (k : Int) < (len : Int) := by omega
            simp [Instr.indexAt, asIntOf, run_underlying hd, hc, run_sizeOf' hi, add_addr, Nat.add_assoc]
            intro hh; omega
          · omega
  · cases h

theorem snd_iadA (hm : HR ι m.hv w) (ht : TR ι m.top T a.tmps) (t : TypeId) (x y : Operand) (n es : Nat) (x' y' : Opd) (ho : o.op = .indexAddr t x y) (hx : opdOk x' x = true) (hy : opdOk y' y = true) (hs : arrIs P t n es = true)
    (h : (IK.iadA n es x' y').ev T m = some (v, m')) : OpPost P ι m w (execOp a.eval o) v m' := by
  obtain ⟨sx, sb⟩ := opd_sound ht hx
  obtain ⟨sy, _⟩ := opd_sound ht hy
  obtain ⟨e, i, hd, hi, rfl⟩ := arrIs_spec hs
  simp only [IK.ev] at h
  generalize x'.ev T = vx at h sx sb
  generalize hax : a.eval x = ax at sx
  split at h
  · rename_i b off
    cases hk : asN (y'.ev T) with
    | none => simp [hk] at h
    | some k =>
      simp only [hk] at h
      obtain ⟨kk, hkk⟩ := asN_spec hk sy
      cases hlt : Nat.blt k n with
      | false => simp [hlt] at h
      | true =>
        simp only [hlt, cond_true, Option.some.injEq, Prod.mk.injEq] at h
        obtain ⟨rfl, rfl⟩ := h
        have hlt' : k < n := by simpa [Nat.blt_eq] using hlt
        cases sx
        rename_i hok
        have e1 := VR.p (ι := ι) b (off + k * i.size) hok
        refine .same hm (cv := .pointer (some ⟨(ι b).b, (ι b).sh + (off + k * i.size), none⟩)) ?_ e1 (bd_p sb.p)
        simp only [execOp, ho, hax, hkk]
        refine run_v ?_
        have hc : (0 : Int) ≤ (k : Int) ∧ (k : Int) < (n : Int) := by omega
        simp [Instr.indexAt, asIntOf, run_underlying hd, hc, run_sizeOf' hi, add_addr, Nat.add_assoc, Instr.sureAddr]
        intro hh; omega
  · cases h

/-! ### Parts of values -/

theorem snd_idxT (hm : HR ι m.hv w) (ht : TR ι m.top T a.tmps) (t : TypeId) (x y : Operand) (x' y' : Opd) (ho : o.op = .index t x y) (hx : opdOk x' x = true) (hy : opdOk y' y = true) (hs : isStr P t = true)
    (h : (IK.idxT x' y').ev T m = some (v, m')) : OpPost P ι m w (execOp a.eval o) v m' := by
  obtain ⟨sx, sb⟩ := opd_sound ht hx
  obtain ⟨sy, _⟩ := opd_sound ht hy
  simp only [IK.ev] at h
  generalize x'.ev T = vx at h sx sb
  generalize hax : a.eval x = ax at sx
  split at h
  · rename_i l
    cases hk : asN (y'.ev T) with
    | none => simp [hk] at h
    | some k =>
      simp only [hk, Option.map_eq_some_iff, Prod.mk.injEq, strAt] at h
      obtain ⟨_, ⟨c, hc, rfl⟩, rfl, rfl⟩ := h
      obtain ⟨kk, hkk⟩ := asN_spec hk sy
      cases sx
      refine .same hm (cv := .int .u8 c.toNat) ?_ (.i _ _) (bd_i _ _ _)
      simp only [execOp, ho, hax, hkk]
      refine run_v ?_
      have hlt : k < l.length := (List.getElem?_eq_some_iff.1 hc).1
      have hbyte : (⟨l.toArray⟩ : ByteArray)[k]? = some c := by
        have h2 : k < (⟨l.toArray⟩ : ByteArray).size := by simpa [ByteArray.size] using hlt
        rw [getElem?_pos _ k h2]
        have : (⟨l.toArray⟩ : ByteArray)[k] = l[k] := by simp [ByteArray.getElem_eq_getElem_data]
        rw [this]
        rw [List.getElem?_eq_getElem hlt] at hc
        exact hc
      simp [Instr.index, asIntOf, run_underlying (isStr_spec hs), hbyte]
  · cases h

theorem drop_take_get {cs : List AV} {ds : Array Value} {off n : Nat} (h : VRs ι cs ds.toList) : VRs ι ((cs.drop off).take n) (ds.extract off (off + n)).toList := by
  have e : (ds.extract off (off + n)).toList = (ds.toList.drop off).take n := by simp
  rw [e]
  exact (h.drop off).take n

theorem part_post (hm : HR ι m.hv w) {t : TypeId} {agg : Bool} {n off : Nat} {cs : List AV} {ds : Array Value} (ha : aggIs P t agg = true) (hs : szIs P t n = true) (hv : VRs ι cs ds.toList) (hb : ∀ x ∈ cs, Bd m.top x)
    (h : (bif agg then some (AV.ag ((cs.drop off).take n), m) else (cs[off]?).map fun v => (v, m)) = some (v, m')) :
    ∃ cv, (part t ds off).run P w = .ok cv w ∧ VR ι v cv ∧ Bd m.top v ∧ m' = m := by
  obtain ⟨i, hi, rfl⟩ := szIs_spec hs
  cases agg with
  | true =>
    simp only [cond_true, Option.some.injEq, Prod.mk.injEq] at h
    obtain ⟨rfl, rfl⟩ := h
    refine ⟨.agg (ds.extract off (off + i.size)), ?_, ?_, bd_ag fun x hx => hb x (List.mem_of_mem_drop (List.mem_of_mem_take hx)), rfl⟩
    · simp [part, run_isAgg ha, run_sizeOf' hi]
    · have := (drop_take_get (off := off) (n := i.size) hv).ag
      rwa [Array.toArray_toList] at this
  | false =>
    simp only [cond_false, Option.map_eq_some_iff, Prod.mk.injEq] at h
    obtain ⟨v', hv', rfl, rfl⟩ := h
    obtain ⟨cv, hcv, hr⟩ := hv.exists off v' hv'
    refine ⟨cv, ?_, hr, hb v' (List.mem_of_getElem? hv'), rfl⟩
    simp [part, run_isAgg ha, hcv]

theorem snd_idxA (hm : HR ι m.hv w) (ht : TR ι m.top T a.tmps) (t : TypeId) (x y : Operand) (n es : Nat) (agg : Bool) (x' y' : Opd) (ho : o.op = .index t x y) (hx : opdOk x' x = true) (hy : opdOk y' y = true)
    (hs : und P t (fun d => match d with | .array n' e => Nat.beq n' n && szIs P e es && aggIs P e agg | _ => false) = true)
    (h : (IK.idxA n es agg x' y').ev T m = some (v, m')) : OpPost P ι m w (execOp a.eval o) v m' := by
  obtain ⟨sx, sb⟩ := opd_sound ht hx
  obtain ⟨sy, _⟩ := opd_sound ht hy
  obtain ⟨d, hd, hbb⟩ := und_spec hs
  simp only [IK.ev] at h
  generalize x'.ev T = vx at h sx sb
  generalize hax : a.eval x = ax at sx
  split at h
  · rename_i cs
    cases hk : asN (y'.ev T) with
    | none => simp [hk] at h
    | some k =>
      simp only [hk] at h
      obtain ⟨kk, hkk⟩ := asN_spec hk sy
      cases hlt : Nat.blt k n && Nat.ble (k * es + es) cs.length with
      | false => simp [hlt] at h
      | true =>
        simp only [hlt, cond_true] at h
        simp only [Bool.and_eq_true, Nat.blt_eq] at hlt
        cases d <;> simp only at hbb <;> (try (cases hbb; done))
        rename_i n' e
        simp only [Bool.and_eq_true, Nat.beq_eq] at hbb
        obtain ⟨⟨rfl, h1⟩, h2⟩ := hbb
        have hcells := sx.cells (by simp)
        cases sx
        rename_i ds _ _
        obtain ⟨cv, hr, hvr, hbd, rfl⟩ := part_post (off := k * es) hm h2 h1 (by simpa [AV.cells, Value.cells] using hcells) sb.ag h
        refine .same hm (cv := cv) ?_ hvr hbd
        simp only [execOp, ho, hax, hkk]
        refine run_v ?_
        obtain ⟨i, hi, rfl⟩ := szIs_spec h1
        have hc : (0 : Int) ≤ (k : Int) ∧ (k : Int) < (n' : Int) := by omega
        simp [Instr.index, asIntOf, run_underlying hd, hc, run_sizeOf' hi, hr]
        intro hh; omega
  · cases h

theorem snd_fld (hm : HR ι m.hv w) (ht : TR ι m.top T a.tmps) (t : TypeId) (x : Operand) (f off n : Nat) (agg : Bool) (x' : Opd) (ho : o.op = .field t x f) (hx : opdOk x' x = true)
    (hs : und P t (fun d => match d with | .struct fs => (match fs[f]? with | some q => Nat.beq q.offset off && szIs P q.type n && aggIs P q.type agg | none => false) | _ => false) = true)
    (h : (IK.fld off n agg x').ev T m = some (v, m')) : OpPost P ι m w (execOp a.eval o) v m' := by
  obtain ⟨sx, sb⟩ := opd_sound ht hx
  obtain ⟨d, hd, hbb⟩ := und_spec hs
  simp only [IK.ev] at h
  generalize x'.ev T = vx at h sx sb
  generalize hax : a.eval x = ax at sx
  split at h
  · rename_i cs
    cases hlt : Nat.ble (off + n) cs.length with
    | false => simp [hlt] at h
    | true =>
      simp only [hlt, cond_true] at h
      cases d <;> simp only at hbb <;> (try (cases hbb; done))
      rename_i fs
      cases hq : fs[f]? with
      | none => simp [hq] at hbb
      | some q =>
        simp only [hq, Bool.and_eq_true, Nat.beq_eq] at hbb
        obtain ⟨⟨rfl, h1⟩, h2⟩ := hbb
        have hcells := sx.cells (by simp)
        cases sx
        rename_i ds _ _
        obtain ⟨cv, hr, hvr, hbd, rfl⟩ := part_post (off := q.offset) hm h2 h1 (by simpa [AV.cells, Value.cells] using hcells) sb.ag h
        refine .same hm (cv := cv) ?_ hvr hbd
        simp only [execOp, ho, hax]
        refine run_v ?_
        simp [Instr.field, run_underlying hd, hq, asAgg, hr]
  · cases h

theorem snd_ext (hm : HR ι m.hv w) (ht : TR ι m.top T a.tmps) (x : Operand) (k : Nat) (x' : Opd) (ho : o.op = .extract x k) (hx : opdOk x' x = true)
    (h : (IK.ext k x').ev T m = some (v, m')) : OpPost P ι m w (execOp a.eval o) v m' := by
  obtain ⟨sx, sb⟩ := opd_sound ht hx
  simp only [IK.ev] at h
  generalize x'.ev T = vx at h sx sb
  generalize hax : a.eval x = ax at sx
  split at h
  · rename_i vs
    simp only [Option.map_eq_some_iff, Prod.mk.injEq] at h
    obtain ⟨v', hv', rfl, rfl⟩ := h
    cases sx
    rename_i ds hlen hall
    have hk : k < ds.size := by have := (List.getElem?_eq_some_iff.1 hv').1; omega
    refine .same hm (cv := ds[k]) ?_ (hall k v' _ hv' (by simp [hk])) (sb.tp v' (List.mem_of_getElem? hv'))
    simp only [execOp, ho, hax]
    refine run_v ?_
    simp [Instr.extract, hk]
  · cases h

end
end Go.Em
