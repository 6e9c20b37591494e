/- The check that an instruction stands for an operation of the model, and that it then does. -/
import Derived.Test.YtokhjbkkpbceeaaGreatDoorEj
namespace Go.Em
open Go
set_option linter.unusedSimpArgs false
set_option linter.unusedVariables false

def sliceOf (P : Program) (t el : TypeId) : Bool := und P t fun d => match d with | .slice e => Nat.beq e el | _ => false
def bytesIs (P : Program) (el : TypeId) (bytes : Nat) : Bool := match P.info? el with | some i => Nat.beq i.bytes bytes | none => false
def bytesZ (P : Program) (el : TypeId) (bytes es : Nat) : Bool := match P.info? el with | some i => Nat.beq i.bytes bytes && (match i.zero with | some z => Nat.beq z.cells.size es | none => false) | none => false
def arrElem (P : Program) (t : TypeId) (n es : Nat) (agg : Bool) : Bool := und P t fun d => match d with | .array n' e => Nat.beq n' n && szIs P e es && aggIs P e agg | _ => false
def fldIs (P : Program) (t : TypeId) (f off n : Nat) (agg : Bool) : Bool := und P t fun d => match d with | .struct fs => (match fs[f]? with | some q => Nat.beq q.offset off && szIs P q.type n && aggIs P q.type agg | none => false) | _ => false
def arrLen (P : Program) (t : TypeId) (n : Nat) : Bool := und P t fun d => match d with | .array n' _ => Nat.beq n' n | _ => false
def isBool (P : Program) (t : TypeId) : Bool := und P t fun d => match d with | .bool => true | _ => false
def shIs (P : Program) (t : TypeId) (sh : List Leaf) : Bool := match shp P 9 t with | some s => decide (s = sh) | none => false

def chkK (P : Program) (op : Op) (k : IK) : Bool :=
  match k with
  | .mv y => match op with
    | .move x => opdOk y x
    | .assign x => opdOk y x
    | _ => false
  | .pick c' x' y' => match op with | .pick c x y => opdOk c' c && opdOk x' x && opdOk y' y | _ => false
  | .new el' es z => match op with | .alloc el => Nat.beq el el' && zeroIs P el' z | _ => false
  | .box el' es y => match op with | .box el x => Nat.beq el el' && opdOk y x | _ => false
  | .build z qs => match op with | .build t ps => zeroIs P t z && buildOk P t ps.toList qs | _ => false
  | .buildS el es len' z qs => match op with
    | .buildSlice t len ps => Nat.beq len len' && sliceOf P t el && szIs P el es && Nat.beq z.length es && zeroIs P el z && Nat.ble (len' * es) 16777216 && partsOk (fun k => some (k * es, es)) ps.toList qs
    | _ => false
  | .ld agg n y => match op with | .load t x => opdOk y x && aggIs P t agg && szIs P t n | _ => false
  | .st n y y2 => match op with | .store t x z => opdOk y x && opdOk y2 z && szIs P t n | _ => false
  | .nilChk y => match op with | .nilCheck x => opdOk y x | _ => false
  | .bin op' x' y' => match op with | .binOp op1 t x y _ => decide (op1 = op') && opdOk x' x && opdOk y' y | _ => false
  | .eqB neg x' y' => match op with | .binOp op1 t x y _ => decide (op1 = eqOp neg) && opdOk x' x && opdOk y' y && isBool P t | _ => false
  | .eqP neg x' y' => match op with | .binOp op1 t x y _ => decide (op1 = eqOp neg) && opdOk x' x && opdOk y' y && isPtrSized P t | _ => false
  | .eqS neg x' y' => match op with | .binOp op1 t x y _ => decide (op1 = eqOp neg) && opdOk x' x && opdOk y' y && isSlice P t | _ => false
  | .eqC neg sh x' y' => match op with | .binOp op1 t x y _ => decide (op1 = eqOp neg) && opdOk x' x && opdOk y' y && shIs P t sh && isStructB P t && !P.eqGuardType P.depth t | _ => false
  | .un op' x' => match op with | .unOp op1 t x => decide (op1 = op') && opdOk x' x | _ => false
  | .conv k x' => match op with | .convert s t x => opdOk x' x && und P s (fun _ => true) && isInt P t k | _ => false
  | .bts x' => match op with | .convert s t x => opdOk x' x && isBytes P s && isStr P t | _ => false
  | .sts x' => match op with | .convert s t x => opdOk x' x && isStr P s && isStr P t | _ => false
  | .mkI t' x' => match op with | .makeInterface t x => Nat.beq t t' && opdOk x' x && notIface P t | _ => false
  | .mkF f' xs' ys' => match op with | .makeFunc f xs ys => fnOk f' f && opdsOk xs' xs.toList && opdsOk ys' ys.toList | _ => false
  | .mkS el es bytes z x' y' => match op with | .makeSlice t x y => opdOk x' x && opdOk y' y && sliceOf P t el && szIs P el es && Nat.beq z.length es && zeroIs P el z && bytesIs P el bytes | _ => false
  | .slcS es x' lo' hi' mx' => match op with
    | .slice t x lo hi mx => opdOk x' x && opdOptOk lo' lo && opdOptOk hi' hi && opdOptOk mx' mx && (!mx'.isSome || hi'.isSome) && elemIs P t es
    | _ => false
  | .slcT x' lo' hi' => match op with | .slice t x lo hi mx => opdOk x' x && opdOptOk lo' lo && opdOptOk hi' hi && mx.isNone && isStr P t | _ => false
  | .slcA n es x' lo' hi' => match op with | .slice t x lo hi mx => opdOk x' x && opdOptOk lo' lo && opdOptOk hi' hi && mx.isNone && arrIs P t n es | _ => false
  | .fad off x' => match op with | .fieldAddr s x f => opdOk x' x && fieldIs P s f off | _ => false
  | .iadS es x' y' => match op with | .indexAddr t x y => opdOk x' x && opdOk y' y && elemIs P t es | _ => false
  | .iadA n es x' y' => match op with | .indexAddr t x y => opdOk x' x && opdOk y' y && arrIs P t n es | _ => false
  | .idxT x' y' => match op with | .index t x y => opdOk x' x && opdOk y' y && isStr P t | _ => false
  | .idxA n es agg x' y' => match op with | .index t x y => opdOk x' x && opdOk y' y && arrElem P t n es agg | _ => false
  | .fld off n agg x' => match op with | .field t x f => opdOk x' x && fldIs P t f off n agg | _ => false
  | .ext k x' => match op with | .extract x k' => Nat.beq k' k && opdOk x' x | _ => false
  | .lenT x' => match op with | .call { callee := .builtin .len, args := ⟨[x]⟩, argTypes := ⟨[t]⟩ } => opdOk x' x && isStr P t | _ => false
  | .lenS x' => match op with | .call { callee := .builtin .len, args := ⟨[x]⟩, argTypes := ⟨[t]⟩ } => opdOk x' x && isSlice P t | _ => false
  | .lenK n => match op with | .call { callee := .builtin .len, args := ⟨[x]⟩, argTypes := ⟨[t]⟩ } => arrLen P t n | _ => false
  | .capS x' => match op with | .call { callee := .builtin .cap, args := ⟨[x]⟩, argTypes := ⟨[t]⟩ } => opdOk x' x && isSlice P t | _ => false
  | .mnmx mx x' y' => match op with
    | .call { callee := .builtin .max, args := ⟨[x, y]⟩, argTypes := _ } => mx && opdOk x' x && opdOk y' y
    | .call { callee := .builtin .min, args := ⟨[x, y]⟩, argTypes := _ } => !mx && opdOk x' x && opdOk y' y
    | _ => false
  | .app el es bytes x' y' => match op with
    | .call { callee := .builtin .append, args := ⟨[x, y]⟩, argTypes := ⟨[t, tx]⟩ } => opdOk x' x && opdOk y' y && sliceOf P t el && szIs P el es && srcIs P tx es && bytesZ P el bytes es
    | _ => false
  | .copy es x' y' => match op with
    | .call { callee := .builtin .copy, args := ⟨[x, y]⟩, argTypes := ⟨[t, tx]⟩ } => opdOk x' x && opdOk y' y && elemIs P t es
    | _ => false
  | .call .. | .callV .. | .callI .. | .bad => false

section
variable {P : Program} {ι : Emb} {m m' : Mem} {w : World} {T : List AV} {a : Act} {v : AV} {o : Oper}

theorem sliceOf_spec {t el : TypeId} (h : sliceOf P t el = true) : und P t (fun d => match d with | .slice e => Nat.beq e el | _ => false) = true := h

theorem elemIs_split {t : TypeId} {es : Nat} (h : elemIs P t es = true) : ∃ el, sliceOf P t el = true ∧ szIs P el es = true := by
  obtain ⟨e, i, h1, h2, rfl⟩ := elemIs_spec h
  exact ⟨e, by simp [sliceOf, und, h1], by simp [szIs, h2]⟩

/-- An instruction that passes the check does what its operation does. -/
theorem ik_sound (hm : HR ι m.hv w) (ht : TR ι m.top T a.tmps) {k : IK} (hk : chkK P o.op k = true) (h : k.ev T m = some (v, m')) : OpPost P ι m w (execOp a.eval o) v m' := by
  cases k <;> simp only [chkK] at hk
  case mv y =>
    split at hk <;> (try (cases hk; done))
    · exact snd_mv hm ht _ _ (.inl (by assumption)) hk h
    · exact snd_mv hm ht _ _ (.inr (by assumption)) hk h
  case pick =>
    split at hk <;> (try (cases hk; done))
    simp only [Bool.and_eq_true] at hk
    exact snd_pick hm ht _ _ _ _ _ _ (by assumption) hk.1.1 hk.1.2 hk.2 h
  case new =>
    split at hk <;> (try (cases hk; done))
    simp only [Bool.and_eq_true, Nat.beq_eq] at hk
    obtain ⟨rfl, hk⟩ := hk
    exact snd_new hm _ _ _ (by assumption) hk h
  case box =>
    split at hk <;> (try (cases hk; done))
    simp only [Bool.and_eq_true, Nat.beq_eq] at hk
    obtain ⟨rfl, hk⟩ := hk
    exact snd_box hm ht _ _ _ _ (by assumption) hk h
  case build =>
    split at hk <;> (try (cases hk; done))
    simp only [Bool.and_eq_true] at hk
    exact snd_build hm ht _ _ _ _ (by assumption) hk.1 hk.2 h
  case buildS =>
    split at hk <;> (try (cases hk; done))
    simp only [Bool.and_eq_true, Nat.beq_eq] at hk
    obtain ⟨⟨⟨⟨⟨⟨rfl, h1⟩, h2⟩, h3⟩, h4⟩, h5⟩, h6⟩ := hk
    exact snd_buildS hm ht _ _ _ _ _ _ _ (by assumption) h1 h2 (by simpa using h3) h4 h5 h6 h
  case ld =>
    split at hk <;> (try (cases hk; done))
    simp only [Bool.and_eq_true] at hk
    exact snd_ld hm ht _ _ _ _ _ (by assumption) hk.1.1 hk.1.2 hk.2 h
  case st =>
    split at hk <;> (try (cases hk; done))
    simp only [Bool.and_eq_true] at hk
    exact snd_st hm ht _ _ _ _ _ _ (by assumption) hk.1.1 hk.1.2 hk.2 h
  case nilChk =>
    split at hk <;> (try (cases hk; done))
    exact snd_nilChk hm ht _ _ (by assumption) hk h
  case bin =>
    split at hk <;> (try (cases hk; done))
    simp only [Bool.and_eq_true, decide_eq_true_eq] at hk
    obtain ⟨⟨rfl, h1⟩, h2⟩ := hk
    exact snd_bin hm ht _ _ _ _ _ _ _ (by assumption) h1 h2 h
  case eqB =>
    split at hk <;> (try (cases hk; done))
    simp only [Bool.and_eq_true, decide_eq_true_eq] at hk
    obtain ⟨⟨⟨rfl, h1⟩, h2⟩, h3⟩ := hk
    exact snd_eqB hm ht _ _ _ _ _ _ _ (by assumption) h1 h2 h3 h
  case eqP =>
    split at hk <;> (try (cases hk; done))
    simp only [Bool.and_eq_true, decide_eq_true_eq] at hk
    obtain ⟨⟨⟨rfl, h1⟩, h2⟩, h3⟩ := hk
    exact snd_eqP hm ht _ _ _ _ _ _ _ (by assumption) h1 h2 h3 h
  case eqS =>
    split at hk <;> (try (cases hk; done))
    simp only [Bool.and_eq_true, decide_eq_true_eq] at hk
    obtain ⟨⟨⟨rfl, h1⟩, h2⟩, h3⟩ := hk
    exact snd_eqS hm ht _ _ _ _ _ _ _ (by assumption) h1 h2 h3 h
  case eqC =>
    split at hk <;> (try (cases hk; done))
    simp only [Bool.and_eq_true, decide_eq_true_eq, Bool.not_eq_true'] at hk
    obtain ⟨⟨⟨⟨⟨rfl, h1⟩, h2⟩, h3⟩, h4⟩, h5⟩ := hk
    exact snd_eqC hm ht _ _ _ _ _ _ _ _ (by assumption) h1 h2 h3 h4 h5 h
  case un =>
    split at hk <;> (try (cases hk; done))
    simp only [Bool.and_eq_true, decide_eq_true_eq] at hk
    obtain ⟨rfl, h1⟩ := hk
    exact snd_un hm ht _ _ _ _ (by assumption) h1 h
  case conv =>
    split at hk <;> (try (cases hk; done))
    simp only [Bool.and_eq_true] at hk
    exact snd_conv hm ht _ _ _ _ _ (by assumption) hk.1.1 hk.1.2 hk.2 h
  case bts =>
    split at hk <;> (try (cases hk; done))
    simp only [Bool.and_eq_true] at hk
    exact snd_bts hm ht _ _ _ _ (by assumption) hk.1.1 hk.1.2 hk.2 h
  case sts =>
    split at hk <;> (try (cases hk; done))
    simp only [Bool.and_eq_true] at hk
    exact snd_sts hm ht _ _ _ _ (by assumption) hk.1.1 hk.1.2 hk.2 h
  case mkI =>
    split at hk <;> (try (cases hk; done))
    simp only [Bool.and_eq_true, Nat.beq_eq] at hk
    obtain ⟨⟨rfl, h1⟩, h2⟩ := hk
    exact snd_mkI hm ht _ _ _ (by assumption) h1 h2 h
  case mkF =>
    split at hk <;> (try (cases hk; done))
    simp only [Bool.and_eq_true] at hk
    exact snd_mkF hm ht _ _ _ _ _ _ (by assumption) hk.1.1 hk.1.2 hk.2 h
  case mkS =>
    split at hk <;> (try (cases hk; done))
    simp only [Bool.and_eq_true] at hk
    obtain ⟨⟨⟨⟨⟨⟨h0, h1⟩, h2⟩, h3⟩, h4⟩, h5⟩, h6⟩ := hk
    exact snd_mkS hm ht _ _ _ _ _ _ _ _ _ (by assumption) h0 h1 h2 h3 h4 h5 h6 h
  case slcS =>
    split at hk <;> (try (cases hk; done))
    simp only [Bool.and_eq_true, Bool.or_eq_true, Bool.not_eq_true'] at hk
    obtain ⟨⟨⟨⟨⟨h0, h1⟩, h2⟩, h3⟩, h4⟩, h5⟩ := hk
    exact snd_slcS hm ht _ _ _ _ _ _ _ _ _ _ (by assumption) h0 h1 h2 h3 (fun e => by rcases h4 with h | h <;> simp_all) h5 h
  case slcT =>
    split at hk <;> (try (cases hk; done))
    simp only [Bool.and_eq_true, Option.isNone_iff_eq_none] at hk
    obtain ⟨⟨⟨⟨h0, h1⟩, h2⟩, rfl⟩, h4⟩ := hk
    exact snd_slcT hm ht _ _ _ _ _ _ _ (by assumption) h0 h1 h2 h4 h
  case slcA =>
    split at hk <;> (try (cases hk; done))
    simp only [Bool.and_eq_true, Option.isNone_iff_eq_none] at hk
    obtain ⟨⟨⟨⟨h0, h1⟩, h2⟩, rfl⟩, h4⟩ := hk
    exact snd_slcA hm ht _ _ _ _ _ _ _ _ _ (by assumption) h0 h1 h2 h4 h
  case fad =>
    split at hk <;> (try (cases hk; done))
    simp only [Bool.and_eq_true] at hk
    exact snd_fad hm ht _ _ _ _ _ (by assumption) hk.1 hk.2 h
  case iadS =>
    split at hk <;> (try (cases hk; done))
    simp only [Bool.and_eq_true] at hk
    exact snd_iadS hm ht _ _ _ _ _ _ (by assumption) hk.1.1 hk.1.2 hk.2 h
  case iadA =>
    split at hk <;> (try (cases hk; done))
    simp only [Bool.and_eq_true] at hk
    exact snd_iadA hm ht _ _ _ _ _ _ _ (by assumption) hk.1.1 hk.1.2 hk.2 h
  case idxT =>
    split at hk <;> (try (cases hk; done))
    simp only [Bool.and_eq_true] at hk
    exact snd_idxT hm ht _ _ _ _ _ (by assumption) hk.1.1 hk.1.2 hk.2 h
  case idxA =>
    split at hk <;> (try (cases hk; done))
    simp only [Bool.and_eq_true] at hk
    exact snd_idxA hm ht _ _ _ _ _ _ _ _ (by assumption) hk.1.1 hk.1.2 hk.2 h
  case fld =>
    split at hk <;> (try (cases hk; done))
    simp only [Bool.and_eq_true] at hk
    exact snd_fld hm ht _ _ _ _ _ _ _ (by assumption) hk.1 hk.2 h
  case ext =>
    split at hk <;> (try (cases hk; done))
    simp only [Bool.and_eq_true, Nat.beq_eq] at hk
    obtain ⟨rfl, h1⟩ := hk
    exact snd_ext hm ht _ _ _ (by assumption) h1 h
  case lenT =>
    split at hk <;> (try (cases hk; done))
    simp only [Bool.and_eq_true] at hk
    exact snd_lenT hm ht _ _ _ (by assumption) hk.1 hk.2 h
  case lenS =>
    split at hk <;> (try (cases hk; done))
    simp only [Bool.and_eq_true] at hk
    exact snd_lenS hm ht _ _ _ (by assumption) hk.1 hk.2 h
  case lenK =>
    split at hk <;> (try (cases hk; done))
    exact snd_lenK hm _ _ _ (by assumption) hk h
  case capS =>
    split at hk <;> (try (cases hk; done))
    simp only [Bool.and_eq_true] at hk
    exact snd_capS hm ht _ _ _ (by assumption) hk.1 hk.2 h
  case mnmx =>
    split at hk <;> (try (cases hk; done))
    · simp only [Bool.and_eq_true] at hk
      obtain ⟨⟨rfl, h1⟩, h2⟩ := hk
      exact snd_mnmx hm ht true _ _ _ _ _ (by assumption) h1 h2 h
    · simp only [Bool.and_eq_true, Bool.not_eq_true'] at hk
      obtain ⟨⟨rfl, h1⟩, h2⟩ := hk
      exact snd_mnmx hm ht false _ _ _ _ _ (by assumption) h1 h2 h
  case app =>
    split at hk <;> (try (cases hk; done))
    simp only [Bool.and_eq_true] at hk
    obtain ⟨⟨⟨⟨⟨h0, h1⟩, h2⟩, h3⟩, h4⟩, h5⟩ := hk
    exact snd_app hm ht _ _ _ _ _ _ _ _ _ (by assumption) h0 h1 h2 h3 h4 h5 h
  case copy =>
    split at hk <;> (try (cases hk; done))
    simp only [Bool.and_eq_true] at hk
    obtain ⟨el, e1, e2⟩ := elemIs_split hk.2
    exact snd_copy hm ht _ _ _ _ _ _ _ _ (by assumption) hk.1.1 hk.1.2 e1 e2 h
  all_goals cases hk

end
end Go.Em
