/- Each instruction of the abstract machine against its operation of the model: append, copy, comparison of structs. -/
import Derived.Test.YtokhjbkkpbceeaaGreatDoorEh
namespace Go.Em
open Go
set_option linter.unusedSimpArgs false
set_option linter.unusedVariables false

section
variable {P : Program} {ι : Emb} {m m' : Mem} {w : World} {T : List AV} {a : Act} {v : AV} {o : Oper}

/-- The cells of what is appended or copied. -/
theorem src_spec (hm : HR ι m.hv w) {es n : Nat} {x : AV} {y : Value} {news : List AV} (hv : VR ι x y) (h : srcF es m n x = some news) (hn : ∃ k, lenF x = some k ∧ n ≤ k) :
    ∃ cs : List Value, VRs ι news cs ∧ (∀ z ∈ news, Bd m.top z) ∧ cs.length = n * es ∧ ∀ w' : World, w'.heap = w.heap → (Builtin.firstCells es n y).run P w' = .ok cs.toArray w' := by
  obtain ⟨k, hk, hnk⟩ := hn
  unfold srcF at h
  split at h
  · cases h
    rcases hv.sl_cases with ⟨_, rfl, _, _, rfl⟩ | ⟨_, _, _, _, hn, _⟩
    · simp [lenF] at hk
      obtain rfl : n = 0 := by omega
      refine ⟨[], .nil ι, by simp, by simp, fun w' _ => by simp [Builtin.firstCells]⟩
    · cases hn
  · rename_i b off len cap ex
    rcases hv.sl_cases with ⟨hn, _⟩ | ⟨_, _, ad, cap', hn, rfl, _, hor⟩
    · cases hn
    · cases hn
      simp [lenF] at hk
      subst hk
      cases hl : Nat.beq len 0 with
      | true =>
        obtain rfl := Nat.eq_of_beq_eq_true hl
        simp only [Nat.beq_refl, cond_true, Option.some.injEq] at h
        subst h
        obtain rfl : n = 0 := by omega
        refine ⟨[], .nil ι, by simp, by simp, fun w' _ => by simp [Builtin.firstCells]; rfl⟩
      | false =>
        simp only [hl, cond_false] at h
        rcases hor with ⟨rfl, _⟩ | ⟨rfl, _⟩
        · obtain ⟨cs, h1, h2, h3, h4⟩ := rd_spec hm h
          refine ⟨cs, h1, h2, h3, fun w' hw' => ?_⟩
          have := run_firstCells_some (P := P) w' es n ⟨(ι b).b, (ι b).sh + off, none⟩ len cap' cs h3 (fun j v hj => by
            rw [← h4 j v hj]
            simp [World.cell?, hw'])
          exact this
        · simp at hl
  · rename_i s
    cases he1 : Nat.beq es 1 with
    | false => simp [he1] at h
    | true =>
    obtain rfl := Nat.eq_of_beq_eq_true he1
    simp only [Nat.beq_refl, cond_true, Option.some.injEq] at h
    subst h
    cases hv
    simp [lenF] at hk
    subst hk
    refine ⟨(s.take n).map fun c => .int .u8 c.toNat, ⟨by simp, fun k x y hx hy => ?_⟩, fun z hz => ?_, by simp; omega, fun w' _ => ?_⟩
    · rw [List.getElem?_map] at hx hy
      cases hq : (s.take n)[k]? with
      | none => simp [hq] at hx
      | some c => simp [hq] at hx hy; subst hx; subst hy; exact .i _ _
    · obtain ⟨c, _, rfl⟩ := List.mem_map.1 hz
      exact bd_i _ _ _
    · simp [Builtin.firstCells]
  · cases h

theorem allOne_run {news : List AV} {cs : List Value} (hv : VRs ι news cs) (h : allOne news = true) : ∀ u ∈ cs, u.oneCell' = true := by
  intro u hu
  obtain ⟨j, hj, hju⟩ := List.mem_iff_getElem.1 hu
  have hj' : j < news.length := by rw [hv.1]; exact hj
  exact (hv.2 j news[j] u (by simp [hj']) (by simp [hj, hju])).one (allOne_spec h _ (List.getElem_mem hj'))

theorem lenOf_run {x : AV} {y : Value} {n : Nat} (hv : VR ι x y) (h : lenF x = some n) (w' : World) : (Builtin.lenOf y).run P w' = .ok n w' := by
  unfold lenF at h
  split at h
  · cases h
    rcases hv.sl_cases with ⟨_, rfl, _, _, rfl⟩ | ⟨_, _, _, _, _, rfl, _⟩ <;> rfl
  · cases h; cases hv
    simp [Builtin.lenOf, ByteArray.size]
  · cases h

def srcIs (P : Program) (t : TypeId) (es : Nat) : Bool := und P t fun d => match d with | .slice _ => true | .string => Nat.beq es 1 | _ => false

theorem lenOk {x : AV} {y : Value} {n : Nat} (h : lenF x = some n) : True := trivial

/-- The model's append in place. -/
theorem run_app_room {t tx ty e : TypeId} {i : TypeInfo} (hd : P.underlying t = some (.slice e)) (hi : P.info? e = some i) (hk : (∃ e', P.underlying tx = some (.slice e')) ∨ P.underlying tx = some .string)
    (base : Option Addr) (sLen sCap n : Nat) (y : Value) (news : List Value) (hlen : (Builtin.lenOf y).run P w = .ok n w) (hfc : (Builtin.firstCells i.size n y).run P w = .ok news.toArray w) (hroom : sLen + n ≤ sCap) (w' : World)
    (hst : match base with | some ad => (storeCells (ad.add (sLen * i.size)) news).run P w = .ok () w' | none => w' = w) :
    (Builtin.append_ #[t, tx] ty #[.slice base sLen sCap, y]).run P w = .ok (.slice base (sLen + n) sCap) w' := by
  cases base with
  | none =>
    simp only at hst
    subst hst
    rcases hk with ⟨e', hk⟩ | hk <;> simp [Builtin.append_, run_underlying hd, run_underlying hk, sizeOf, typeInfo, hi, hlen, hroom, hfc]
  | some ad =>
    simp only at hst
    rcases hk with ⟨e', hk⟩ | hk <;> simp [Builtin.append_, run_underlying hd, run_underlying hk, sizeOf, typeInfo, hi, hlen, hroom, hfc, hst]

/-- A block is given up; its place goes to a new name. -/
theorem move_spec {q : Blk} {b : Nat} (hm : HR ι m.hv w) (hq : m.look b = some q) (hro : q.ro = false) (k : Blk) (hk : k.ro = false) (c' : Array Value) (he : k.el = q.el) (hs : k.es = q.es)
    (hc : ∀ c : Array Value, w.heap[(ι b).b]? = some (.cells c q.el (0, 0)) → c'.size = c.size) (hl : k.cells.length ≤ c'.size)
    (hv : ∀ (j : Nat) (v : AV), k.cells[j]? = some v → ∃ cv : Value, c'[j]? = some cv ∧ VR ι v cv) (hb : ∀ v ∈ k.cells, Bd m.top v) :
    let κ : Emb := fun r => if r = m.top then ι b else ι r
    HR κ ((m.put b none).push (some k)).hv (w.setRow (ι b).b c') ∧ Ext ι m.hv w κ ((m.put b none).push (some k)).hv (w.setRow (ι b).b c') := by
  intro κ
  have hbt : b < m.top := m.look_lt hq
  have htop : (m.put b none).top = m.top := m.top_put _ _
  have hag' : ∀ r, r < m.top → κ r = ι r := fun r hr => by simp [κ]; omega
  have hag : ∀ r, r < m.top → (ι r).ok = true → κ r = ι r := fun r hr _ => hag' r hr
  have hnew : κ m.top = ι b := by simp [κ]
  obtain ⟨hok, hes, hbd, c, el, fr, h1, h2, h3, h4⟩ := hm.blk b q hq
  obtain ⟨rfl, rfl, h2c, h2d⟩ := h2 hro
  have hsz := hc c h1
  have hrow := setRow_heap w (ι b).b c c' q.el (0, 0) h1
  have hother : ∀ b', b' ≠ (ι b).b → (w.setRow (ι b).b c').heap[b']? = w.heap[b']? := by
    intro b' hb'; simp [World.setRow, Array.getElem?_modify]; intro h; exact absurd h.symm hb'
  have hsize : (w.setRow (ι b).b c').heap.size = w.heap.size := by simp [World.setRow]
  have look : ∀ i q', ((m.put b none).push (some k)).look i = some q' → (i = m.top ∧ q' = k) ∨ (i ≠ m.top ∧ i ≠ b ∧ m.look i = some q' ∧ i < m.top) := by
    intro i q' hi
    rw [Mem.look_push, htop] at hi
    by_cases e : i = m.top
    · rw [if_pos e] at hi; exact .inl ⟨e, (Option.some.inj hi).symm⟩
    · rw [if_neg e, m.look_put b i none hbt] at hi
      by_cases e2 : b = i
      · rw [if_pos e2] at hi; cases hi
      · rw [if_neg e2] at hi; exact .inr ⟨e, fun h => e2 h.symm, hi, m.look_lt hi⟩
  have ht2 : ((m.put b none).push (some k)).top = m.top + 1 := by rw [Mem.top_push, htop]
  constructor
  · refine ⟨fun i q' hi => Mem.look_lt _ hi, fun i q' hi => ?_, fun i j q1 q2 hi hj hr hne => ?_⟩
    · show BR κ ((m.put b none).push (some k)).top _ i q'
      rw [ht2]
      rcases look i q' hi with ⟨rfl, rfl⟩ | ⟨e1, e2, e3, e4⟩
      · exact ⟨by rw [hnew]; exact hok, by rw [hnew, hs]; exact hes, fun v hv' => (hb v hv').mono (by omega), c', q.el, (0, 0), by rw [hnew]; exact hrow, fun _ => by rw [hnew]; exact ⟨rfl, he.symm, h2c, by rw [hsz]; exact h2d⟩,
          by rw [hnew, h2c]; simpa using hl, fun j v hj => by
            obtain ⟨cv, g1, g2⟩ := hv j v hj
            exact ⟨cv, by rw [hnew, h2c]; simpa using g1, g2.agree (hb v (List.mem_of_getElem? hj)) hag⟩⟩
      · have hbi := hm.blk i q' e3
        exact (hbi.weak (κ := κ) (m := m.top + 1) (hag' i e4) hag (Nat.le_succ _)).world (by
          rw [hag' i e4]
          exact hother _ (fun h => hm.inj b i q q' hq e3 hro (fun h => e2 h.symm) h.symm))
    · rcases look i q1 hi with ⟨rfl, rfl⟩ | ⟨e1, e2, e3, e4⟩
      · rcases look j q2 hj with ⟨rfl, rfl⟩ | ⟨f1, f2, f3, f4⟩
        · exact absurd rfl hne
        · rw [hnew, hag' j f4]; exact hm.inj b j q q2 hq f3 hro (fun h => f2 h.symm)
      · rcases look j q2 hj with ⟨rfl, rfl⟩ | ⟨f1, f2, f3, f4⟩
        · rw [hnew, hag' i e4]; exact hm.inj i b q1 q e3 hq hr e2
        · rw [hag' i e4, hag' j f4]; exact hm.inj i j q1 q2 e3 f3 hr hne
  · refine ⟨hag', by show m.top ≤ ((m.put b none).push (some k)).top; rw [ht2]; omega, by rw [hsize]; exact Nat.le_refl _, rfl, rfl, rfl, fun b' hb' hf => hother b' (fun h => hf b q hq hro h.symm), fun i q' hi => ?_⟩
    rcases look i q' hi with ⟨rfl, rfl⟩ | ⟨e1, e2, e3, e4⟩
    · rw [hnew]; exact .inr ⟨b, q, hq, fun _ => hro, rfl⟩
    · rw [hag' i e4]; exact .inr ⟨i, q', e3, id, rfl⟩

/-- A block is given up. -/
theorem drop_spec {b : Nat} (hm : HR ι m.hv w) (hb : b < m.top) : HR ι (m.put b none).hv w ∧ Ext ι m.hv w ι (m.put b none).hv w := by
  have look : ∀ i q', (m.put b none).look i = some q' → m.look i = some q' := by
    intro i q' hi
    rw [m.look_put b i none hb] at hi
    split at hi
    · cases hi
    · exact hi
  exact ⟨hm.less (m.top_put _ _) look, ⟨fun _ _ => rfl, by show m.top ≤ _; rw [Mem.hv, m.top_put]; exact Nat.le_refl _, Nat.le_refl _, rfl, rfl, rfl, fun _ _ _ => rfl, fun i k hi => .inr ⟨i, k, look i k hi, id, rfl⟩⟩⟩

theorem list_room {c : Array Value} {olds us : List Value} (h : olds.length + us.length ≤ c.size) (hp : ∀ (j : Nat) (v : Value), olds[j]? = some v → c[j]? = some v) :
    ∀ (j : Nat) (v : Value), (olds ++ us)[j]? = some v → (c.toList.take olds.length ++ us ++ c.toList.drop (olds.length + us.length)).toArray[j]? = some v := by
  intro j v hj
  rw [List.getElem?_toArray, List.append_assoc]
  by_cases h1 : j < olds.length
  · rw [List.getElem?_append_left h1] at hj
    rw [List.getElem?_append_left (by simp; omega), List.getElem?_take, if_pos h1]
    simpa using hp j v hj
  · rw [List.getElem?_append_right (by omega)] at hj
    have e : (c.toList.take olds.length).length = olds.length := by simp; omega
    rw [List.getElem?_append_right (by omega), e]
    have h2 : j - olds.length < us.length := (List.getElem?_eq_some_iff.1 hj).1
    rw [List.getElem?_append_left h2]
    exact hj

theorem news_post' {w0 : World} {m0 : Mem} (hm : HR ι m0.hv w0) (hext : Ext ι m.hv w ι m0.hv w0) (htop : m0.top = m.top) {res : Sem Next} {el : TypeId} {es : Nat} {cs : List AV} {c : Array Value} {len cap cap' : Nat} {exact : Bool}
    (hv : ∀ (j : Nat) (v : AV), cs[j]? = some v → ∃ cv : Value, c[j]? = some cv ∧ VR ι v cv) (hl : cs.length ≤ c.size) (hb : ∀ x ∈ cs, Bd m.top x)
    (h1 : len ≤ cap') (h2 : cap ≤ cap') (h3 : exact = true → cap' = cap) (h4 : cap' * es ≤ c.size)
    (hr : res.run P w = .ok (.value (.slice (some ⟨w0.heap.size, 0, none⟩) len cap')) (w0.alloc (.cells c el))) :
    OpPost P ι m w res (.sl (some (m.top, 0)) len cap exact) (m0.push (some { cells := cs, el := el, es := es, ro := false })) := by
  obtain ⟨g1, g2⟩ := push_spec hm { cells := cs, el := el, es := es, ro := false } rfl c hl hv (fun v hv => by rw [htop]; exact hb v hv)
  refine ⟨_, _, _, _, hr, .inl rfl, ?_, bd_sl (by rw [Mem.top_push, htop]; omega), g1, hext.trans g2⟩
  have e := VR.sl (ι := fun r => if r = m0.top then (⟨w0.heap.size, 0, c.size, es, true⟩ : Loc) else ι r) m0.top 0 len cap exact cap' (by simp) h1 h2 h3 (by simpa using h4)
  rw [htop] at e ⊢
  simpa using e

theorem snd_app (hm : HR ι m.hv w) (ht : TR ι m.top T a.tmps) (t tx el : TypeId) (es bytes : Nat) (x y : Operand) (x' y' : Opd) (ho : o.op = .call { callee := .builtin .append, args := #[x, y], argTypes := #[t, tx] }) (hx : opdOk x' x = true) (hy : opdOk y' y = true)
    (hel : und P t (fun d => match d with | .slice e => Nat.beq e el | _ => false) = true) (hs : szIs P el es = true) (hsrc : srcIs P tx es = true)
    (hby : (match P.info? el with | some i => Nat.beq i.bytes bytes && (match i.zero with | some z => Nat.beq z.cells.size es | none => false) | none => false) = true) (h : (IK.app el es bytes x' y').ev T m = some (v, m')) :
    OpPost P ι m w (execOp a.eval o) v m' := by
  obtain ⟨sx, sb⟩ := opd_sound ht hx
  obtain ⟨sy, _⟩ := opd_sound ht hy
  obtain ⟨d, hd, hbb⟩ := und_spec hel
  cases d <;> simp only at hbb <;> (try (cases hbb; done))
  obtain rfl := Nat.eq_of_beq_eq_true hbb
  rename_i el
  obtain ⟨i, hi, rfl⟩ := szIs_spec hs
  simp only [hi, Bool.and_eq_true, Nat.beq_eq] at hby
  obtain ⟨rfl, hzz⟩ := hby
  obtain ⟨z, hz, hzs⟩ : ∃ z, i.zero = some z ∧ z.cells.size = i.size := by
    cases hz : i.zero with
    | none => simp [hz] at hzz
    | some z => simp only [hz, Nat.beq_eq] at hzz; exact ⟨z, rfl, hzz⟩
  obtain ⟨dx, hdx, hbx⟩ := und_spec hsrc
  have hkind : (∃ e', P.underlying tx = some (.slice e')) ∨ P.underlying tx = some .string := by
    cases dx <;> simp only at hbx <;> (try (cases hbx; done))
    · exact .inr hdx
    · exact .inl ⟨_, hdx⟩
  simp only [IK.ev] at h
  generalize y'.ev T = vy at h sy
  generalize hay : a.eval y = ay at sy
  generalize x'.ev T = vx at h sx sb
  generalize hax : a.eval x = ax at sx
  cases hn : lenF vy with
  | none => simp [hn] at h
  | some n =>
  simp only [hn] at h
  cases hsf : srcF i.size m n vy with
  | none => simp [hsf] at h
  | some news =>
  simp only [hsf] at h
  obtain ⟨cs, hvs, hbd, hcl, hfc⟩ := src_spec (P := P) hm sy hsf ⟨n, hn, Nat.le_refl _⟩
  have hlenr := fun w' => lenOf_run (P := P) sy hn w'
  have hnl : news.length = n * i.size := by rw [hvs.1, hcl]
  obtain ⟨cc, ecs⟩ := exec_builtin (a := a) .append _ _ ho
  have exec : ∀ {cv : Value} {w' : World}, (Builtin.append_ #[t, tx] o.type #[ax, ay]).run P w = .ok cv w' → (execOp a.eval o).run P w = .ok (.value cv) w' := fun hr => by
    rw [ecs]
    simp only [builtin]
    refine run_v ?_
    simpa [hax, hay] using hr
  unfold appF at h
  split at h
  rotate_left
  · cases h
  rename_i base len cap exact
  cases hk0 : Nat.beq n 0 with
  | true =>
    obtain rfl := Nat.eq_of_beq_eq_true hk0
    simp only [Nat.beq_refl, cond_true, Option.some.injEq, Prod.mk.injEq] at h
    obtain ⟨rfl, rfl⟩ := h
    obtain rfl : cs = [] := by simpa using hcl
    refine .same hm (cv := ax) ?_ sx sb
    refine exec ?_
    rcases sx.sl_cases with ⟨rfl, rfl, rfl, rfl, rfl⟩ | ⟨_, _, ad, cap', rfl, rfl, hle, _⟩
    · exact run_app_room hd hi hkind none 0 0 0 ay [] (hlenr w) (hfc w rfl) (Nat.le_refl _) w rfl
    · exact run_app_room hd hi hkind (some ad) len cap' 0 ay [] (hlenr w) (hfc w rfl) hle w rfl
  | false =>
  simp only [hk0, cond_false] at h
  cases hc : (Nat.ble ((len + n) * i.bytes) 1099511627776 && Nat.ble (len + n) 1099511627776 && allOne news && Nat.ble 1 i.size) with
  | false => simp [hc] at h
  | true =>
  simp only [hc, cond_true] at h
  simp only [Bool.and_eq_true, Nat.ble_eq] at hc
  obtain ⟨⟨⟨c1, c2⟩, c3⟩, c4⟩ := hc
  have hn0 : n ≠ 0 := fun e => by rw [e] at hk0; simp at hk0
  have hsrcP : Go.Src P i.size tx ay n cs w := ⟨hkind, hlenr, hfc w rfl, hfc w.drew rfl, hcl, allOne_run hvs c3⟩
  -- growth, at whatever memory
  have grow : ∀ (m0 : Mem) (bs : Option Addr) (cap' : Nat) (olds : List AV) (us : List Value), HR ι m0.hv w → Ext ι m.hv w ι m0.hv w → m0.top = m.top → ax = .slice bs len cap' → cap' < len + n →
      VRs ι olds us → (∀ x ∈ olds, Bd m.top x) → us.length = len * i.size → (Builtin.firstCells i.size len (.slice bs len cap')).run P w.drew = .ok us.toArray w.drew →
      OpPost P ι m w (execOp a.eval o) (.sl (some (m.top, 0)) (len + n) (len + n) false) (m0.push (some { cells := olds ++ news, el := el, es := i.size, ro := false })) := by
    intro m0 bs cap' olds us hm0 hext htop hax' hlt hvo hbo hlo hold
    have hfit : Builtin.nextslicecap (len + n) cap' * i.bytes ≤ 281474976710656 := by
      have h2 := nextslicecap_le hlt
      have h3 : Builtin.nextslicecap (len + n) cap' * i.bytes ≤ 2 * (len + n) * i.bytes := Nat.mul_le_mul_right _ h2
      rw [Nat.mul_assoc] at h3
      omega
    have hrun := run_append_grow_src (P := P) w t tx o.type el i z hd hi hz bs len cap' us hold ay n cs hsrcP hlt (by omega) hfit
    have hge : len + n ≤ grownCap w (len + n) cap' el := by simp only [grownCap, Question.cut]; omega
    have hsize : ((us ++ cs).toArray ++ Builtin.zeroCells z.cells (grownCap w (len + n) cap' el - (len + n))).size = grownCap w (len + n) cap' el * i.size := by
      simp only [Array.size_append, List.size_toArray, List.length_append, hlo, hcl, size_zeroCells, hzs]
      rw [← Nat.add_mul, ← Nat.add_mul]
      congr 1; omega
    have hvv := hvo.append hvs
    have := news_post' (P := P) (m := m) (w := w) (w0 := w.drew) (m0 := m0) hm0.drew hext.drew htop (res := execOp a.eval o) (el := el) (es := i.size) (cs := olds ++ news)
      (c := (us ++ cs).toArray ++ Builtin.zeroCells z.cells (grownCap w (len + n) cap' el - (len + n))) (len := len + n) (cap := len + n) (cap' := grownCap w (len + n) cap' el) (exact := false)
      (fun j v hj => by
        obtain ⟨cv, g1, g2⟩ := hvv.get hj
        refine ⟨cv, ?_, g2⟩
        have hlt : j < (us ++ cs).length := (List.getElem?_eq_some_iff.1 g1).1
        rw [Array.getElem?_append_left (by simpa using hlt)]
        simpa using g1) (by
        have := hvv.1
        rw [this]; simp)
      (fun x hx => by
        rcases List.mem_append.1 hx with h | h
        · exact hbo x h
        · exact hbd x h) hge hge (fun h => by cases h) (by rw [hsize]; exact Nat.le_refl _) (exec (by rw [hax']; exact hrun))
    exact this
  cases base with
  | none =>
    simp only [Option.some.injEq, Prod.mk.injEq] at h
    obtain ⟨rfl, rfl⟩ := h
    rcases sx.sl_cases with ⟨_, rfl, rfl, rfl, rfl⟩ | ⟨_, _, _, _, hn', _⟩
    · have := grow m none 0 [] [] hm (.refl _ _ _) rfl rfl (by omega) (.nil ι) (by simp) (by simp) (run_firstCells_none _ _ _ _ _)
      simpa using this
    · cases hn'
  | some bo =>
    obtain ⟨b, off⟩ := bo
    simp only at h
    cases hq : m.look b with
    | none => simp [hq] at h
    | some q =>
    simp only [hq] at h
    cases hro : q.ro with
    | true => simp [hro] at h
    | false =>
    simp only [hro, cond_false] at h
    cases hqe : Nat.beq q.el el && Nat.beq q.es i.size with
    | false => simp [hqe] at h
    | true =>
    simp only [hqe, cond_true] at h
    simp only [Bool.and_eq_true, Nat.beq_eq] at hqe
    obtain ⟨hqel, hqes⟩ := hqe
    have hes : (ι b).es = i.size := (hm.blk b q hq).es.trans hqes
    rcases sx.sl_cases with ⟨hn', _⟩ | ⟨_, _, ad, cap', hn', rfl, hle, hor⟩
    · cases hn'
    cases hn'
    cases hr1 : Nat.ble (len + n) cap with
    | true =>
      simp only [hr1, cond_true, Option.map_eq_some_iff, Prod.mk.injEq] at h
      obtain ⟨m1, hw, rfl, rfl⟩ := h
      have hroom := Nat.le_of_ble_eq_true hr1
      rcases hor with ⟨rfl, g1, g2, g3, g0⟩ | ⟨_, rfl, _⟩
      rotate_left
      · omega
      obtain ⟨w', hst, hm1, hext, htop⟩ := wr_spec (P := P) hm hw hvs hbd
      refine ⟨ι, _, _, w', exec (run_app_room hd hi hkind _ len cap' n ay cs (hlenr w) (hfc w rfl) (by omega) w' ?_), .inl rfl, .sl b off _ _ _ cap' g0 (by omega) g1 g2 g3, ?_, hm1, hext⟩
      · simp only [add_addr]
        rw [Nat.add_assoc]; exact hst
      · rw [htop]; exact bd_sl sb.sl
    | false =>
    simp only [hr1, cond_false] at h
    have hnroom : cap < len + n := by
      have : ¬ (len + n ≤ cap) := by rw [← Nat.ble_eq, hr1]; simp
      omega
    cases exact with
    | true =>
      simp only [cond_true, Option.map_eq_some_iff, Prod.mk.injEq] at h
      obtain ⟨olds, hrd, rfl, rfl⟩ := h
      rcases hor with ⟨rfl, g1, g2, g3, g0⟩ | ⟨_, _, hf⟩
      rotate_left
      · cases hf
      obtain rfl := g2 rfl
      obtain ⟨us, hvo, hbo, hlo, hcell⟩ := rd_spec hm hrd
      refine grow m _ cap' olds us hm (.refl _ _ _) rfl rfl hnroom hvo hbo hlo ?_
      exact run_firstCells_some (P := P) w.drew i.size len _ len cap' us hlo (fun j v hj => by rw [← hcell j v hj]; rfl)
    | false =>
      simp only [cond_false] at h
      cases hz1 : Nat.beq off 0 && Nat.ble 1 len with
      | false => simp [hz1] at h
      | true =>
      simp only [hz1, cond_true, Option.map_eq_some_iff, Prod.mk.injEq] at h
      obtain ⟨olds, hrd, rfl, rfl⟩ := h
      simp only [Bool.and_eq_true, Nat.beq_eq, Nat.ble_eq] at hz1
      obtain ⟨rfl, hlen1⟩ := hz1
      rcases hor with ⟨rfl, g1, g2, g3, g0⟩ | ⟨rfl, _, _⟩
      rotate_left
      · omega
      obtain ⟨us, hvo, hbo, hlo, hcell⟩ := rd_spec hm hrd
      by_cases hroom : len + n ≤ cap'
      · obtain ⟨_, _, hqb, c, el', fr, w1, w2, w3, w4⟩ := hm.blk b q hq
        obtain ⟨rfl, rfl, hsh, hsz⟩ := w2 hro
        rw [hes] at g3
        have hfit : len * i.size + n * i.size ≤ c.size := by
          rw [hsz, ← Nat.add_mul]
          have := Nat.mul_le_mul_right i.size hroom
          omega
        have hst := run_storeCells_at P (ι b).b (len * i.size) q.el cs 0 c w w1 (by rw [hcl]; simpa using hfit) (allOne_run hvs c3)
        simp only [Nat.add_zero] at hst
        have hpre : ∀ (j : Nat) (v : Value), us[j]? = some v → c[j]? = some v := fun j v hj => by
          have h5 := hcell j v hj
          rw [hsh, add_addr] at h5
          simpa [World.cell?, w1] using h5
        have hgets := list_room (c := c) (olds := us) (us := cs) (by rw [hlo, hcl]; exact hfit) hpre
        rw [hlo] at hgets
        have hvv := hvo.append hvs
        obtain ⟨k1, k2⟩ := move_spec hm hq hro { cells := olds ++ news, el := el, es := i.size, ro := false } rfl
          (c.toList.take (len * i.size) ++ cs ++ c.toList.drop (len * i.size + cs.length)).toArray hqel.symm hqes.symm
          (fun c0 h0 => by rw [w1] at h0; cases h0; simp [hcl]; omega) (by
            have e1 : olds.length = len * i.size := by rw [hvo.1, hlo]
            simp [hcl, e1, hnl]; omega)
          (fun j v hj => by
            obtain ⟨cv, e1, e2⟩ := hvv.get hj
            exact ⟨cv, hgets j cv e1, e2⟩)
          (fun x hx => by
            rcases List.mem_append.1 hx with h | h
            · exact hbo x h
            · exact hbd x h)
        refine ⟨_, _, _, _, exec (run_app_room hd hi hkind _ len cap' n ay cs (hlenr w) (hfc w rfl) hroom _ ?_), .inl rfl, ?_, ?_, k1, k2⟩
        · simp only [add_addr]
          rw [hsh]
          simpa using hst
        · have e := VR.sl (ι := fun r => if r = m.top then ι b else ι r) m.top 0 (len + n) (len + n) false cap' (by simp [g0]) hroom hroom (fun h => by cases h) (by simp [hes]; omega)
          simpa using e
        · rw [Mem.top_push, m.top_put]; exact bd_sl (by omega)
      · obtain ⟨d1, d2⟩ := drop_spec hm (m.look_lt hq)
        refine grow (m.put b none) _ cap' olds us d1 d2 (m.top_put _ _) rfl (by omega) hvo hbo hlo ?_
        exact run_firstCells_some (P := P) w.drew i.size len _ len cap' us hlo (fun j v hj => by rw [← hcell j v hj]; rfl)

theorem snd_copy (hm : HR ι m.hv w) (ht : TR ι m.top T a.tmps) (t tx el : TypeId) (es : Nat) (x y : Operand) (x' y' : Opd) (ho : o.op = .call { callee := .builtin .copy, args := #[x, y], argTypes := #[t, tx] }) (hx : opdOk x' x = true) (hy : opdOk y' y = true)
    (hel : und P t (fun d => match d with | .slice e => Nat.beq e el | _ => false) = true) (hs : szIs P el es = true)
    (h : (IK.copy es x' y').ev T m = some (v, m')) : OpPost P ι m w (execOp a.eval o) v m' := by
  obtain ⟨sx, sb⟩ := opd_sound ht hx
  obtain ⟨sy, _⟩ := opd_sound ht hy
  obtain ⟨d, hd, hbb⟩ := und_spec hel
  cases d <;> simp only at hbb <;> (try (cases hbb; done))
  obtain rfl := Nat.eq_of_beq_eq_true hbb
  rename_i el
  obtain ⟨i, hi, rfl⟩ := szIs_spec hs
  simp only [IK.ev] at h
  generalize y'.ev T = vy at h sy
  generalize hay : a.eval y = ay at sy
  generalize x'.ev T = vx at h sx sb
  generalize hax : a.eval x = ax at sx
  split at h
  rotate_left
  · cases h
  rename_i base len cap ex n hn
  cases hsf : srcF i.size m (min n len) vy with
  | none => simp [hsf] at h
  | some vs =>
  simp only [hsf] at h
  obtain ⟨cs, hvs, hbd, hcl, hfc⟩ := src_spec (P := P) hm sy hsf ⟨n, hn, Nat.min_le_left _ _⟩
  have hlenr := fun w' => lenOf_run (P := P) sy hn w'
  obtain ⟨cc, ecs⟩ := exec_builtin (a := a) .copy _ _ ho
  have exec : ∀ {w' : World} (q : Option Addr) (c : Nat), ax = .slice q len c → (match q with | some ad => (storeCells ad cs).run P w = .ok () w' | none => w' = w) → (execOp a.eval o).run P w = .ok (.value (.int .i64 (min n len : Nat))) w' := fun q c e hst => by
    rw [ecs]
    simp only [builtin]
    refine run_v ?_
    have hmin : Nat.min n len = min n len := rfl
    cases q with
    | none =>
      simp only at hst
      subst hst
      simp [hax, hay, e, Builtin.copy_, run_underlying hd, hlenr, run_sizeOf' hi, hmin, hfc, goInt]
    | some ad =>
      simp only at hst
      simp [hax, hay, e, Builtin.copy_, run_underlying hd, hlenr, run_sizeOf' hi, hmin, hfc, goInt, hst]
  rcases sx.sl_cases with ⟨rfl, rfl, rfl, rfl, rfl⟩ | ⟨b, off, ad, cap', rfl, rfl, hle, hor⟩
  · simp only [Option.some.injEq, Prod.mk.injEq] at h
    obtain ⟨rfl, rfl⟩ := h
    exact .same hm (exec none 0 rfl rfl) (.i _ _) (bd_i _ _ _)
  · simp only at h
    cases h0 : Nat.beq (min n len) 0 with
    | true =>
      simp only [h0, cond_true, Option.some.injEq, Prod.mk.injEq] at h
      obtain ⟨rfl, rfl⟩ := h
      have h0' := Nat.eq_of_beq_eq_true h0
      obtain rfl : cs = [] := by rw [h0'] at hcl; simpa using hcl
      exact .same hm (exec (some ad) cap' rfl rfl) (.i _ _) (bd_i _ _ _)
    | false =>
      simp only [h0, cond_false] at h
      cases hq : m.look b with
      | none => simp [hq] at h
      | some q =>
      simp only [hq] at h
      cases hqe : Nat.beq q.es i.size with
      | false => simp [hqe] at h
      | true =>
      simp only [hqe, cond_true, Option.map_eq_some_iff, Prod.mk.injEq] at h
      obtain ⟨m1, hw, rfl, rfl⟩ := h
      rcases hor with ⟨rfl, g1, g2, g3, g0⟩ | ⟨rfl, _, _⟩
      rotate_left
      · simp at h0
      obtain ⟨w', hst, hm1, hext, htop⟩ := wr_spec (P := P) hm hw hvs hbd
      exact ⟨ι, _, _, w', exec _ cap' rfl hst, .inl rfl, .i _ _, bd_i _ _ _, hm1, hext⟩

end
end Go.Em
