/- The abstract machine: calls, and regions in the order of the text. -/
import Derived.Test.YtokhjbkkpbceeaaGreatDoorEk
import Derived.CallsIn
namespace Go.Em
open Go
set_option linter.unusedSimpArgs false
set_option linter.unusedVariables false

/-- What a call comes to: its result, what it changed of the memory that it found, and what it added. -/
structure CR where
  v : AV
  upd : List (Nat × Option Blk)
  new : List (Option Blk)

/-- The memory behind a call. -/
def Hv.after (H : Hv) (c : CR) : Hv :=
  ⟨H.n + c.new.length, fun i => bif Nat.blt i H.n then (match lookU c.upd i with | some b => b | none => H.look i) else (match c.new[i - H.n]? with | some b => b | none => none)⟩

def Mem.puts (m : Mem) : List (Nat × Option Blk) → Mem
  | [] => m
  | (i, b) :: r => (m.puts r).put i b
def Mem.apply (m : Mem) (c : CR) : Mem :=
  match c.upd with
  | [] => { m with ext := m.ext ++ c.new }
  | u => let m1 := m.puts u; { m1 with ext := m1.ext ++ c.new }

theorem Mem.top_puts (m : Mem) : ∀ u, (m.puts u).top = m.top
  | [] => rfl
  | (i, b) :: r => by rw [Mem.puts, Mem.top_put, Mem.top_puts m r]
theorem Mem.put_big (m : Mem) {i : Nat} (b : Option Blk) (h : ¬ i < m.top) (j : Nat) : (m.put i b).look j = if j = i ∧ i < m.n then b else m.look j := by
  have hn : ¬ i < m.n := by unfold Mem.top at h; omega
  have hb : Nat.blt i m.n = false := by rw [← Bool.not_eq_true, Nat.blt_eq]; exact hn
  have he : m.ext.set (i - m.n) b = m.ext := List.set_eq_of_length_le (by unfold Mem.top at h; omega)
  unfold Mem.put
  simp only [hb, cond_false, he]
  rw [if_neg (by omega)]
theorem Mem.look_puts (m : Mem) : ∀ (u : List (Nat × Option Blk)) (j : Nat), j < m.top → (m.puts u).look j = (match lookU u j with | some b => b | none => m.look j)
  | [], j, _ => rfl
  | (i, b) :: r, j, hj => by
    have ih := Mem.look_puts m r j hj
    have ht := m.top_puts r
    rw [Mem.puts]
    by_cases hi : i < m.top
    · rw [Mem.look_put _ _ _ _ (by rw [ht]; exact hi)]
      by_cases e : i = j
      · subst e; simp [lookU]
      · rw [if_neg e, ih]; simp [lookU, beqF e]
    · rw [Mem.put_big _ _ (by rw [ht]; exact hi)]
      have e : ¬ i = j := by omega
      rw [if_neg (by intro h; exact e h.1.symm), ih]
      simp [lookU, beqF e]
theorem Mem.n_put (m : Mem) (i : Nat) (b : Option Blk) : (m.put i b).n = m.n := by unfold Mem.put; cases Nat.blt i m.n <;> rfl
theorem Mem.n_puts (m : Mem) : ∀ u, (m.puts u).n = m.n
  | [] => rfl
  | (i, b) :: r => by rw [Mem.puts, Mem.n_put, Mem.n_puts m r]
theorem Mem.look_ext (m : Mem) (new : List (Option Blk)) (j : Nat) :
    ({ m with ext := m.ext ++ new } : Mem).look j = if j < m.top then m.look j else (match new[j - m.top]? with | some b => b | none => none) := by
  unfold Mem.look Mem.top
  by_cases h1 : j < m.n
  · have hb : Nat.blt j m.n = true := by simpa [Nat.blt_eq] using h1
    rw [if_pos (by omega)]
    simp [hb]
  · have hb : Nat.blt j m.n = false := by rw [← Bool.not_eq_true, Nat.blt_eq]; exact h1
    simp only [hb, cond_false]
    by_cases h2 : j < m.n + m.ext.length
    · rw [if_pos h2, List.getElem?_append_left (by omega)]
    · rw [if_neg h2, List.getElem?_append_right (by omega), show j - m.n - m.ext.length = j - (m.n + m.ext.length) by omega]
      rfl
theorem Mem.apply_eq (m : Mem) (c : CR) : m.apply c = { m.puts c.upd with ext := (m.puts c.upd).ext ++ c.new } := by
  unfold Mem.apply
  split
  · rename_i h; rw [h]; rfl
  · rfl
theorem Mem.apply_hv (m : Mem) (c : CR) : (m.apply c).hv = m.hv.after c := by
  rw [Mem.apply_eq]
  unfold Mem.hv Hv.after
  have ht := m.top_puts c.upd
  congr 1
  · simp only [Mem.top, List.length_append] at ht ⊢
    omega
  · funext j
    rw [Mem.look_ext, ht]
    by_cases h : j < m.top
    · rw [if_pos h, Mem.look_puts m _ _ h]
      have hb : Nat.blt j m.top = true := by simpa [Nat.blt_eq] using h
      simp only [hb, cond_true]
    · rw [if_neg h]
      have hb : Nat.blt j m.top = false := by rw [← Bool.not_eq_true, Nat.blt_eq]; exact h
      simp only [hb, cond_false]
theorem Mem.apply_top (m : Mem) (c : CR) : (m.apply c).top = m.top + c.new.length := congrArg Hv.n (m.apply_hv c)

/-- The model's call comes to a value. -/
def Lands (P : Program) (R : Value → World → Prop) : Result Next → Prop
  | .ok (.value v) w' => R v w'
  | .ok (.enter f args) w' => Calls P f args w' fun e w'' => ∃ v, e = .returned v ∧ R v w''
  | _ => False

def CallPost (ι : Emb) (H : Hv) (w : World) (c : CR) (cv : Value) (w' : World) : Prop :=
  ∃ κ, Ext ι H w κ (H.after c) w' ∧ HR κ (H.after c) w' ∧ VR κ c.v cv ∧ Bd (H.n + c.new.length) c.v

/-- What else is known of the world (of the record of a loop, say). -/
abbrev Amb := Emb → Hv → World → Prop
structure AmbOK (A : Amb) : Prop where
  ext : ∀ ι H w κ K w', A ι H w → HR ι H w → Ext ι H w κ K w' → A κ K w'
  less : ∀ κ K K' w, A κ K w → K'.n = K.n → (∀ i k, K'.look i = some k → K.look i = some k) → A κ K' w
def noAmb : Amb := fun _ _ _ => True
theorem noAmb_ok : AmbOK noAmb := ⟨fun _ _ _ _ _ _ _ _ _ => trivial, fun _ _ _ _ _ _ _ => trivial⟩

/-- No fence, but perhaps in a round of a range over a function. -/
def Fz (rr : Option Nat) : Fence := { fn := fun _ => True, depth := none, alive := false, round := rr }

/-- A call of f comes to what is said. -/
def FnS (P : Program) (f : FuncId) (args : List AV) (H : Hv) (c : CR) : Prop :=
  ∀ (ι : Emb) (w : World) (cargs : Array Value), HR ι H w → VRs ι args cargs.toList → (∀ x ∈ args, Bd H.n x) → Lands P (CallPost ι H w c) ((callFunc f cargs).run P w)

abbrev Orc := FuncId → List AV → Hv → Option CR
/-- A call of yield comes to what is said. -/
def YldS (P : Program) (A : Amb) (a : Nat) (args : List AV) (H : Hv) (c : CR) : Prop :=
  ∀ (ι : Emb) (w : World) (cargs : Array Value), HR ι H w → A ι H w → (ι a).ok = true → VRs ι args cargs.toList → (∀ x ∈ args, Bd H.n x) →
    ∃ fn tmps assign body, (Instr.yield (ι a).b cargs).run P w = .ok (.round (ι a).b fn tmps assign body) w ∧ ∀ rr dp, RoundIn (Fz rr) dp P (ι a).b fn tmps assign body w fun e w' => ∃ v, e = .returned v ∧ CallPost ι H w c v w'
/-- The key under which yield is asked for. -/
def yKey : FuncId := 1000000000
def OrcOK (P : Program) (A : Amb) (orc : Orc) : Prop := ∀ f args H c, orc f args H = some c →
  (f ≠ yKey → FnS P f args H c) ∧ (f = yKey → ∃ a rest, args = .p (some (a, 0)) :: rest ∧ YldS P A a rest H c)
def orcF (orc : Orc) : Orc := fun f args H => bif Nat.beq f yKey then none else orc f args H
theorem orcF_ok {P : Program} {A : Amb} {orc : Orc} (ho : OrcOK P A orc) {f : FuncId} {args : List AV} {H : Hv} {c : CR} (h : orcF orc f args H = some c) : FnS P f args H c := by
  unfold orcF at h
  by_cases e : f = yKey
  · simp [e] at h
  · simp only [beqF e, cond_false] at h
    exact (ho f args H c h).1 e

/-- Which function a method of a type is. -/
abbrev Meth := TypeId → String → Option FuncId
structure MethOK (P : Program) (mt : Meth) : Prop where
  run : ∀ t s f, mt t s = some f → ∀ v w, (method (P.types.size + Made.depth) t v s).run P w = .ok (f, v) w
  nil : ∀ t s f, mt t s = some f → ∀ v w, (nilAhead (P.types.size + Made.depth) t v s).run P w = .ok (some false) w

def callV (orc : Orc) (mt : Meth) (m : Mem) (f : AV) (args : List AV) : Option (AV × Mem) :=
  match f with
  | .fn (.yield a) [] [] => (orc yKey (.p (some (a, 0)) :: args) m.hv).map fun c => (c.v, m.apply c)
  | .fn (.func g) first cap => (orcF orc g (first ++ (args ++ cap)) m.hv).map fun c => (c.v, m.apply c)
  | .fn (.method s) first cap => match first ++ args with
    | .ifc t v :: r => (match mt t s with
      | some g => (orcF orc g (v :: r) m.hv).map fun c => (c.v, m.apply c)
      | none => none)
    | _ => none
  | _ => none

def evK (orc : Orc) (mt : Meth) (T : List AV) (m : Mem) : IK → Option (AV × Mem)
  | .call f args => (orcF orc f (args.map (·.ev T)) m.hv).map fun c => (c.v, m.apply c)
  | .callV f args => callV orc mt m (f.ev T) (args.map (·.ev T))
  | .callI r s args => match r.ev T with
    | .ifc t v => (match mt t s with
      | some g => (orcF orc g (v :: args.map (·.ev T)) m.hv).map fun c => (c.v, m.apply c)
      | none => none)
    | _ => none
  | .nilChk x => match x.ev T with
    | .fn (.method s) (.ifc t v :: r) cap => (match mt t s with | some _ => some (.fn (.method s) (.ifc t v :: r) cap, m) | none => none)
    | _ => (IK.nilChk x).ev T m
  | k => k.ev T m

def chkC1 (P : Program) (op : Op) (k : IK) : Bool :=
  match k with
  | .call f ys => match op with
    | .call { callee := .value (.func g), args := xs, argTypes := _ } => Nat.beq f g && opdsOk ys xs.toList
    | _ => false
  | .callV y ys => match op with
    | .call { callee := .value x, args := xs, argTypes := _ } => opdOk y x && opdsOk ys xs.toList
    | _ => false
  | .callI y s ys => match op with
    | .call { callee := .invoke x s', args := xs, argTypes := _ } => opdOk y x && decide (s' = s) && opdsOk ys xs.toList
    | _ => false
  | k => chkK P op k

section
variable {P : Program} {orc : Orc} {mt : Meth} {ι : Emb} {m m' : Mem} {w : World} {T : List AV} {a : Act} {v : AV} {o : Oper}

theorem callsIn_Fz {rr : Option Nat} {dp : Nat} {f : FuncId} {args : Array Value} {R : Ending → World → Prop} (h : Calls P f args w R) : CallsIn (Fz rr) dp P f args w R := (callsIn_wide (n := dp)).2 h
theorem not_defer {op : Op} {k : IK} (h : chkC1 P op k = true) : ∀ c, op ≠ .defer c := by
  rintro c rfl
  cases k <;> simp [chkC1, chkK] at h

variable {rr : Option Nat} {dp : Nat} {A : Amb}

/-- One operation: whatever follows, if it follows from what the instruction says. -/
theorem lands_upon {c : CR} {r : Result Next} {next : Act → World → Prop} {Q : Exit → Act → World → Prop} (hl : Lands P (CallPost ι m.hv w c) r)
    (hn : ∀ κ cv w', VR κ c.v cv → Bd (m.apply c).top c.v → HR κ (m.apply c).hv w' → Ext ι m.hv w κ (m.apply c).hv w' → next (a.put o.dst cv) w') : o.uponIn (Fz rr) dp P a next Q r := by
  have fin : ∀ cv w', CallPost ι m.hv w c cv w' → next (a.put o.dst cv) w' := fun cv w' ⟨κ, h1, h2, h3, h4⟩ => by
    rw [← Mem.apply_hv] at h1 h2
    exact hn κ cv w' h3 (by rw [Mem.apply_top]; exact h4) h2 h1
  unfold Lands at hl
  split at hl
  · exact fin _ _ hl
  · refine ⟨fun h => by simp [Fz] at h, callsIn_Fz (Calls.mono hl fun e w'' ⟨v, he, hr⟩ => ?_)⟩
    subst he
    exact fin _ _ hr
  · exact hl.elim

theorem op_sound (ho : OrcOK P A orc) (hmt : MethOK P mt) (hm : HR ι m.hv w) (hA : A ι m.hv w) (ht : TR ι m.top T a.tmps) {k : IK} (hk : chkC1 P o.op k = true) (h : evK orc mt T m k = some (v, m')) {next : Act → World → Prop} {Q : Exit → Act → World → Prop}
    (hn : ∀ κ cv w', VR κ v cv → Bd m'.top v → HR κ m'.hv w' → Ext ι m.hv w κ m'.hv w' → next (a.put o.dst cv) w') : o.wpIn (Fz rr) dp P a w next Q := by
  have hnd := not_defer hk
  have plain : OpPost P ι m w (execOp a.eval o) v m' → o.wpIn (Fz rr) dp P a w next Q := fun ⟨κ, nx, cv, w', hr, hnx, hv, hb, hm', he⟩ => by
    unfold Oper.wpIn
    refine ⟨fun _ _ => trivial, ?_⟩
    rw [Oper.semAt_eq _ _ _ hnd, hr]
    rcases hnx with rfl | ⟨rfl, rfl⟩
    · exact hn κ cv w' hv hb hm' he
    · exact hn κ undef w' hv hb hm' he
  have other : k.ev T m = some (v, m') → chkK P o.op k = true → o.wpIn (Fz rr) dp P a w next Q := fun h1 h2 => plain (ik_sound hm ht h2 h1)
  cases k
  case call f ys =>
    simp only [chkC1] at hk
    split at hk <;> (try (cases hk; done))
    rename_i g xs ts heq
    simp only [Bool.and_eq_true, Nat.beq_eq] at hk
    obtain ⟨rfl, hk⟩ := hk
    simp only [evK, Option.map_eq_some_iff, Prod.mk.injEq] at h
    obtain ⟨c, hc, rfl, rfl⟩ := h
    have sa := opds_sound ht hk
    have hf := orcF_ok ho hc ι w (xs.map a.eval) hm (by simpa using sa.1) sa.2
    unfold Oper.wpIn
    have e : (execOp a.eval o).run P w = (callFunc f (xs.map a.eval)).run P w := by
      simp [execOp, heq, resolve, Act.eval, Deferred.ofValue, invoke]
    refine ⟨fun _ _ => trivial, ?_⟩
    rw [Oper.semAt_eq _ _ _ hnd, e]
    exact lands_upon hf hn
  case callV y ys =>
    simp only [chkC1] at hk
    split at hk <;> (try (cases hk; done))
    rename_i x xs ts heq
    simp only [Bool.and_eq_true] at hk
    have sx := opd_sound ht hk.1
    have sa := opds_sound ht hk.2
    simp only [evK] at h
    generalize y.ev T = vy at h sx
    generalize hax : a.eval x = ax at sx
    obtain ⟨sx, sb⟩ := sx
    unfold callV at h
    split at h
    · rename_i l0
      simp only [Option.map_eq_some_iff, Prod.mk.injEq] at h
      obtain ⟨c, hc, rfl, rfl⟩ := h
      obtain ⟨a1, rest, h1, h2⟩ := (ho _ _ _ _ hc).2 rfl
      cases h1
      cases sx
      case fn h0 _ _ _ _ => simp [tame] at h0
      rename_i hok
      obtain ⟨fn, tmps, asg, bdy, hy, hro⟩ := h2 ι w (xs.map a.eval) hm hA hok (by simpa using sa.1) sa.2
      unfold Oper.wpIn
      refine ⟨fun _ _ => trivial, ?_⟩
      have e : (execOp a.eval o).run P w = .ok (.round (ι l0).b fn tmps asg bdy) w := by
        simp [execOp, heq, resolve, hax, Deferred.ofValue, invoke, hy]
      rw [Oper.semAt_eq _ _ _ hnd, e]
      refine ⟨fun h => by simp [Fz] at h, (hro rr (dp - 1)).mono fun e' w' ⟨v, hev, κ, g1, g2, g3, g4⟩ => ?_⟩
      subst hev
      rw [← Mem.apply_hv] at g1 g2
      exact hn κ v w' g3 (by rw [Mem.apply_top]; exact g4) g2 g1
    · rename_i g first cap
      simp only [Option.map_eq_some_iff, Prod.mk.injEq] at h
      obtain ⟨c, hc, rfl, rfl⟩ := h
      cases sx
      rename_i us vs _ h1 h3 h2 h4
      have va : VRs ι first us.toList := ⟨by simpa using h1, fun k x y hx hy => h3 k x y hx (by simpa using hy)⟩
      have vb : VRs ι cap vs.toList := ⟨by simpa using h2, fun k x y hx hy => h4 k x y hx (by simpa using hy)⟩
      have hf := orcF_ok ho hc ι w (us ++ xs.map a.eval ++ vs) hm (by simpa using va.append (sa.1.append vb)) (fun z hz => by
        rcases List.mem_append.1 hz with h | h
        · exact fun r hr => sb r (.fn1 _ _ _ z h hr)
        · rcases List.mem_append.1 h with h | h
          · exact sa.2 z h
          · exact fun r hr => sb r (.fn2 _ _ _ z h hr))
      unfold Oper.wpIn
      have e : (execOp a.eval o).run P w = (callFunc g (us ++ xs.map a.eval ++ vs)).run P w := by
        simp [execOp, heq, resolve, hax, Deferred.ofValue, invoke]
      refine ⟨fun _ _ => trivial, ?_⟩
      rw [Oper.semAt_eq _ _ _ hnd, e]
      exact lands_upon hf hn
    · rename_i s first cap
      split at h <;> (try (cases h; done))
      rename_i t z r hfa
      cases hg : mt t s with
      | none => simp [hg] at h
      | some g =>
        simp only [hg, Option.map_eq_some_iff, Prod.mk.injEq] at h
        obtain ⟨c, hc, rfl, rfl⟩ := h
        cases sx
        rename_i us vs _ h1 h3 h2 h4
        have va : VRs ι first us.toList := ⟨by simpa using h1, fun k x y hx hy => h3 k x y hx (by simpa using hy)⟩
        have vall := va.append sa.1
        rw [hfa] at vall
        have ball : ∀ q ∈ first ++ ys.map (·.ev T), Bd m.top q := fun q hq => by
          rcases List.mem_append.1 hq with h | h
          · exact fun r hr => sb r (.fn1 _ _ _ q h hr)
          · exact sa.2 q h
        rw [hfa] at ball
        have hcons : ∃ c0 cr, us.toList ++ xs.toList.map a.eval = c0 :: cr := by
          cases hcc : us.toList ++ xs.toList.map a.eval with
          | nil => rw [hcc] at vall; have := vall.1; simp at this
          | cons c0 cr => exact ⟨c0, cr, rfl⟩
        obtain ⟨c0, cr, hcc⟩ := hcons
        rw [hcc] at vall
        have hhead := vall.head
        cases hhead
        rename_i cz hz
        have hf := orcF_ok ho hc ι w (#[cz] ++ cr.toArray) hm (by simpa using VRs.cons hz vall.tail) (fun q hq => by
          rcases List.mem_cons.1 hq with h | h
          · rw [h]; exact fun r' hr => ball (.ifc t z) (by simp) r' (.ifc _ _ hr)
          · exact ball q (by simp [h]))
        unfold Oper.wpIn
        have harr : us ++ xs.map a.eval = (Value.iface t cz :: cr).toArray := by
          apply Array.ext'
          simpa using hcc
        have e : (execOp a.eval o).run P w = (callFunc g (#[cz] ++ cr.toArray)).run P w := by
          have e2 : ((Value.iface t cz :: cr).toArray).extract 1 ((Value.iface t cz :: cr).toArray).size = cr.toArray := by
            apply Array.ext'; simp
          simp only [execOp, heq, resolve, hax, Deferred.ofValue, Sem.run_bind, Sem.run_pure, Result.andThen_ok, invoke, harr]
          have e3 : ((Value.iface t cz :: cr).toArray)[0]? = some (Value.iface t cz) := by simp
          rw [e3]
          simp only [e2, callMethod, Sem.run_bind, run_program, Result.andThen_ok, hmt.run t s g hg]
        refine ⟨fun _ _ => trivial, ?_⟩
        rw [Oper.semAt_eq _ _ _ hnd, e]
        exact lands_upon hf hn
    · cases h
  case callI y s ys =>
    simp only [chkC1] at hk
    split at hk <;> (try (cases hk; done))
    rename_i x s' xs ts heq
    simp only [Bool.and_eq_true, decide_eq_true_eq] at hk
    obtain ⟨⟨hk1, rfl⟩, hk2⟩ := hk
    have sx := opd_sound ht hk1
    have sa := opds_sound ht hk2
    simp only [evK] at h
    generalize y.ev T = vy at h sx
    generalize hax : a.eval x = ax at sx
    obtain ⟨sx, sb⟩ := sx
    split at h <;> (try (cases h; done))
    rename_i t z
    cases hg : mt t s' with
    | none => simp [hg] at h
    | some g =>
      simp only [hg, Option.map_eq_some_iff, Prod.mk.injEq] at h
      obtain ⟨c, hc, rfl, rfl⟩ := h
      cases sx
      rename_i cz hz
      have hf := orcF_ok ho hc ι w (#[cz] ++ xs.map a.eval) hm (by simpa using VRs.cons hz sa.1) (fun q hq => by
        rcases List.mem_cons.1 hq with rfl | h
        · exact fun r hr => sb r (.ifc _ _ hr)
        · exact sa.2 q h)
      unfold Oper.wpIn
      have e : (execOp a.eval o).run P w = (callFunc g (#[cz] ++ xs.map a.eval)).run P w := by
        have e2 : (#[Value.iface t cz] ++ xs.map a.eval).extract 1 (#[Value.iface t cz] ++ xs.map a.eval).size = xs.map a.eval := by
          apply Array.ext'
          simp only [Array.toList_extract, List.extract_eq_take_drop, Array.toList_append, Array.size_append, List.size_toArray]
          simp
          exact List.take_of_length_le (by simp)
        have e3 : (#[Value.iface t cz] ++ xs.map a.eval)[0]? = some (Value.iface t cz) := by rw [Array.getElem?_append_left (by simp)]; rfl
        unfold execOp
        simp only [heq, resolve, hax, Sem.run_bind, Sem.run_pure, Result.andThen_ok, invoke]
        rw [e2, e3]
        simp only [callMethod, Sem.run_bind, run_program, Result.andThen_ok, hmt.run t s' g hg]
      refine ⟨fun _ _ => trivial, ?_⟩
      rw [Oper.semAt_eq _ _ _ hnd, e]
      exact lands_upon hf hn
  case nilChk y =>
    simp only [evK] at h
    split at h
    · rename_i s t z r cap hy
      simp only [chkC1, chkK] at hk
      split at hk <;> (try (cases hk; done))
      rename_i x heq
      have sx := opd_sound ht hk
      rw [hy] at sx
      cases hg : mt t s with
      | none => simp [hg] at h
      | some g =>
        simp only [hg, Option.some.injEq, Prod.mk.injEq] at h
        obtain ⟨rfl, rfl⟩ := h
        refine plain (.same hm (cv := a.eval x) ?_ sx.1 sx.2)
        generalize hax : a.eval x = ax at sx
        obtain ⟨sx, sb⟩ := sx
        cases sx
        rename_i us vs _ h1 h3 h2 h4
        have h0 : ∃ u0, us[0]? = some u0 := by
          have : 0 < us.size := by simp at h1; omega
          exact ⟨us[0], by simp [this]⟩
        obtain ⟨u0, hu0⟩ := h0
        have hv0 := h3 0 _ _ rfl hu0
        cases hv0
        rename_i cz hz
        simp only [execOp, heq, hax]
        simp only [hu0, Sem.run_bind, run_program, Result.andThen_ok, hmt.nil t s g hg]
        simp
    · exact other h (by simpa [chkC1] using hk)
  all_goals exact other (by simpa [evK] using h) (by simpa [chkC1] using hk)

end
end Go.Em
