/- The abstract machine: functions, the table, the fuel. -/
import Derived.Test.YtokhjbkkpbceeaaGreatDoorEu
namespace Go.Em
open Go
set_option linter.unusedSimpArgs false
set_option linter.unusedVariables false

inductive RV where
  | t (k : Nat)
  | cell (agg : Bool) (n k : Nat)

def RV.ev (s : St) : RV → Option AV
  | .t k => match s.T[k]? with | some v => some v | none => some .u
  | .cell agg n k => match s.T[k]? with
    | some (.p (some (b, o))) => match rd s.m b o n with
      | some vs => bif agg then some (.ag vs) else (match vs with | [v] => some v | _ => none)
      | none => none
    | _ => none
def evRes (s : St) : List RV → Option (List AV)
  | [] => some []
  | r :: rs => match r.ev s with
    | some v => match evRes s rs with
      | some vs => some (v :: vs)
      | none => none
    | none => none
def resV (s : St) (rs : List RV) : Option AV := match evRes s rs with
  | some [v] => some v
  | some vs => some (.tp vs)
  | none => none

def rvOk (P : Program) : RV → ResultVar → Bool
  | .t k, .tmp t => Nat.beq k t
  | .cell agg n k, .cell a t => Nat.beq k a && aggIs P t agg && szIs P t n
  | _, _ => false
def rvsOk (P : Program) : List RV → List ResultVar → Bool
  | [], [] => true
  | r :: rs, q :: qs => rvOk P r q && rvsOk P rs qs
  | _, _ => false

structure FDef where
  ntmps : Nat
  body : IC
  res : List RV

def chkF (P : Program) (f : FuncId) (d : FDef) : Bool :=
  match P.funcs[f]? with
  | some fn => Nat.beq fn.ntmps d.ntmps && !(fn.name == "runtime.NumGoroutine") && (match fn.body with | some c => chkCode P d.body c | none => false) && rvsOk P d.res fn.results.toList
  | none => false

def us : Nat → List AV
  | 0 => []
  | n + 1 => .u :: us n
def startT (n : Nat) (args : List AV) : List AV := args ++ us (n - args.length)

def runC (orc : Orc) (mt : Meth) (F : Nat) (sub : Sub) (d : FDef) (args : List AV) (m : Mem) : Option (AV × Mem) :=
  match exC orc mt F sub d.body ⟨startT d.ntmps args, m⟩ with
  | some (.x _, _) => none
  | some (_, s) => match resV s d.res with
    | some v => some (v, s.m)
    | none => none
  | none => none
def runF (orc : Orc) (mt : Meth) (F : Nat) (sub : Sub) (d : FDef) (args : List AV) (H : Hv) : Option CR :=
  match runC orc mt F sub d args ⟨H.n, H.look, [], []⟩ with
  | some (v, m) => leave m v
  | none => none

theorem us_length : ∀ n, (us n).length = n
  | 0 => rfl
  | n + 1 => by simp [us, us_length n]
theorem us_mem : ∀ n x, x ∈ us n → x = .u
  | 0, x, h => by simp [us] at h
  | n + 1, x, h => by
    rcases List.mem_cons.1 h with h | h
    · exact h
    · exact us_mem n x h

def resG (tmps : Array Value) : ResultVar → Sem Value
  | .tmp t => pure (tmps.getD t undef)
  | .cell a t => do loadVar t (← asAddr (tmps.getD a undef))
theorem results_eq (fn : Func) (tmps : Array Value) : results fn tmps = (do
    let vs ← fn.results.mapM (resG tmps)
    pure (if h : vs.size = 1 then vs[0] else .tuple vs)) := by
  unfold results
  congr 2

section
variable {P : Program} {orc : Orc} {mt : Meth} {ι : Emb} {w : World} {a : Act} {s : St} {A : Amb}

theorem rv_sound (hs : SR A ι s a w) {r : RV} {q : ResultVar} (hk : rvOk P r q = true) {v : AV} (h : r.ev s = some v) :
    ∃ cv, (resG a.tmps q).run P w = .ok cv w ∧ VR ι v cv ∧ Bd s.m.top v := by
  cases r with
  | t k =>
    cases q <;> simp only [rvOk] at hk <;> (try (cases hk; done))
    rename_i t
    simp only [Nat.beq_eq] at hk
    subst hk
    refine ⟨_, rfl, ?_⟩
    simp only [RV.ev] at h
    split at h
    · rename_i x hx
      cases h
      have hlt := (List.getElem?_eq_some_iff.1 hx).1
      have hlt' : k < a.tmps.size := hs.t.len ▸ hlt
      have := hs.t.vr k _ _ hx (Array.getElem?_eq_getElem hlt')
      rw [Array.getD_eq_getD_getElem?, Array.getElem?_eq_getElem hlt']
      exact ⟨this, hs.t.bd _ (List.mem_of_getElem? hx)⟩
    · cases h
      exact ⟨.u _, Bd.u _⟩
  | cell agg n k =>
    cases q <;> simp only [rvOk] at hk <;> (try (cases hk; done))
    rename_i x t
    simp only [Bool.and_eq_true, Nat.beq_eq] at hk
    obtain ⟨⟨rfl, ha⟩, hsz⟩ := hk
    simp only [RV.ev] at h
    split at h <;> (try (cases h; done))
    rename_i b off hT
    have hlt := (List.getElem?_eq_some_iff.1 hT).1
    have hlt' : k < a.tmps.size := hs.t.len ▸ hlt
    have hv := hs.t.vr k _ _ hT (Array.getElem?_eq_getElem hlt')
    have hg : a.tmps.getD k undef = a.tmps[k] := by rw [Array.getD_eq_getD_getElem?, Array.getElem?_eq_getElem hlt']; rfl
    simp only [resG, hg]
    generalize a.tmps[k] = y at hv
    cases hv
    cases hr : rd s.m b off n with
    | none => simp [hr] at h
    | some vs =>
      simp only [hr] at h
      obtain ⟨cs, hvs, hbd, hlen, hcell⟩ := rd_spec hs.h hr
      obtain ⟨i, hi, hin⟩ := szIs_spec hsz
      have hl := run_loadCells_list (P := P) w _ cs hcell
      rw [hlen] at hl
      cases agg with
      | true =>
        simp only [cond_true, Option.some.injEq] at h
        subst h
        refine ⟨.agg cs.toArray, ?_, hvs.ag, bd_ag hbd⟩
        simp [resG, asAddr, loadVar, run_isAgg ha, run_sizeOf' hi, hin, hl]
      | false =>
        simp only [cond_false] at h
        split at h <;> (try (cases h; done))
        rename_i v'
        obtain ⟨cv, hcv, hvr⟩ := hvs.get (k := 0) (x := v') rfl
        simp only [Option.some.injEq] at h
        subst h
        refine ⟨cv, ?_, hvr, hbd _ (by simp)⟩
        have h0 := hcell 0 cv hcv
        rw [add_addr] at h0
        simp only [Nat.add_zero] at h0
        simp [resG, asAddr, loadVar, run_isAgg ha, run_load]
        rw [h0]

theorem rvs_sound (hs : SR A ι s a w) : ∀ {rs : List RV} {qs : List ResultVar}, rvsOk P rs qs = true → ∀ {vs : List AV}, evRes s rs = some vs →
    ∃ cs : List Value, (qs.mapM (resG a.tmps)).run P w = .ok cs w ∧ VRs ι vs cs ∧ ∀ x ∈ vs, Bd s.m.top x
  | [], [], _, vs, h => by
    simp [evRes] at h
    subst h
    exact ⟨[], by simp, VRs.nil ι, fun x h => by cases h⟩
  | r :: rs, q :: qs, hc, vs, h => by
    simp only [rvsOk, Bool.and_eq_true] at hc
    simp only [evRes] at h
    cases h1 : r.ev s with
    | none => simp [h1] at h
    | some v =>
      cases h2 : evRes s rs with
      | none => simp [h1, h2] at h
      | some us =>
        simp only [h1, h2, Option.some.injEq] at h
        subst h
        obtain ⟨cv, g1, g2, g3⟩ := rv_sound hs hc.1 h1
        obtain ⟨cs, k1, k2, k3⟩ := rvs_sound hs hc.2 h2
        refine ⟨cv :: cs, ?_, VRs.cons g2 k2, fun x hx => ?_⟩
        · rw [List.mapM_cons]
          simp only [Sem.run_bind, g1, Result.andThen_ok, k1, Sem.run_pure]
        · rcases List.mem_cons.1 hx with rfl | hx
          · exact g3
          · exact k3 x hx
  | [], _ :: _, hc, _, _ => by simp [rvsOk] at hc
  | _ :: _, [], hc, _, _ => by simp [rvsOk] at hc

theorem res_sound (hs : SR A ι s a w) {fn : Func} {rs : List RV} (hk : rvsOk P rs fn.results.toList = true) {v : AV} (h : resV s rs = some v) : ∃ cv, (results fn a.tmps).run P w = .ok cv w ∧ VR ι v cv ∧ Bd s.m.top v := by
  unfold resV at h
  cases he : evRes s rs with
  | none => simp [he] at h
  | some vs =>
    obtain ⟨cs, h1, h2, h3⟩ := rvs_sound hs hk he
    have hrun : (results fn a.tmps).run P w = .ok (if h : cs.toArray.size = 1 then cs.toArray[0] else .tuple cs.toArray) w := by
      rw [results_eq, Array.mapM_eq_mapM_toList]
      simp only [map_eq_pure_bind, bind_assoc, pure_bind, Sem.run_bind]
      refine (congrArg (fun r => Result.andThen r _) h1).trans ?_
      simp
    rw [hrun]
    refine ⟨_, rfl, ?_⟩
    simp only [he] at h
    split at h
    · rename_i v' heq
      cases h; cases heq
      have hl : cs.length = 1 := h2.1.symm
      obtain ⟨cv, hcv, hvr⟩ := h2.get (k := 0) rfl
      obtain ⟨y, rfl⟩ := List.length_eq_one_iff.1 hl
      simp at hcv
      subst hcv
      exact ⟨by simpa using hvr, h3 _ (by simp)⟩
    · rename_i vs' hne heq
      cases h; cases heq
      have hl : cs.toArray.size ≠ 1 := fun e => by
        have : vs.length = 1 := by rw [h2.1]; simpa using e
        obtain ⟨y, rfl⟩ := List.length_eq_one_iff.1 this
        exact hne y rfl
      rw [dif_neg hl]
      exact ⟨h2.tp, bd_tp h3⟩
    · cases h

theorem run_enter {f : FuncId} {fn : Func} {c : Code} (hf : P.funcs[f]? = some fn) (hname : (fn.name == "runtime.NumGoroutine") = false) (hb : fn.body = some c) (args : Array Value) :
    (callFunc f args).run P w = .ok (.enter f args) w := by
  simp only [callFunc, Sem.run_bind, run_program, Result.andThen_ok, hf, hname, hb]
  simp

theorem leaves_sound {fn : Func} {rs : List RV} (hk : rvsOk P rs fn.results.toList = true) {v : AV} (hv : resV s rs = some v) {R : Ending → World → Prop} {w0 : World} {H : Hv} {κ : Emb} (hR : ∀ cv w', HR κ s.m.hv w' → Ext ι H w0 κ s.m.hv w' → VR κ v cv → Bd s.m.top v → R (.returned cv) w') :
    ∀ (ms : List Nat) (w : World), ms.Nodup → (∀ D ∈ ms, w0.heap.size ≤ D ∧ w.heap[D]? = some (.deferred (some []))) → SR noAmb κ s a w → Ext ι H w0 κ s.m.hv w →
      LeavesInM Fence.wide 0 P fn a.tmps R (ms.map fun D => ({ target := .collected D, args := #[] } : Deferred)) .returning w
  | [], w, _, _, hs, he => by
    obtain ⟨cv, h1, h2, h3⟩ := res_sound hs hk hv
    exact ⟨cv, h1, hR cv w hs.h he h2 h3⟩
  | D :: ms, w, hnd, hD, hs, he => by
    have hd := hD D (by simp)
    have hnd' := List.nodup_cons.1 hnd
    refine ⟨by simp, .inl ⟨D, _, rfl, run_takeDeferred hd.2, ?_⟩⟩
    refine leaves_sound hk hv hR ms _ hnd'.2 (fun D' hD' => ?_) ⟨hs.t, hs.h.putObj hd.2 rfl, trivial⟩ (he.putNew hd.1 _)
    have := hD D' (by simp [hD'])
    exact ⟨this.1, (World.putObj_heap_other (fun e => by subst e; exact hnd'.1 hD')).trans this.2⟩

theorem start_tr {n : Nat} {args : List AV} {cargs : Array Value} {k k' : Nat} (hk : k' = k) (hargs : VRs ι args cargs.toList) (hbd : ∀ x ∈ args, Bd n x) : TR ι n (startT k args) (cargs ++ Array.replicate (k' - cargs.size) undef) := by
  have hlen := hargs.1
  simp at hlen
  refine ⟨?_, fun j x y hx hy => ?_, fun x hx => ?_⟩
  · simp [startT, us_length, hk, hlen]
  · unfold startT at hx
    by_cases hka : j < args.length
    · rw [List.getElem?_append_left hka] at hx
      rw [Array.getElem?_append_left (by omega)] at hy
      exact hargs.2 j x y hx (by simpa using hy)
    · rw [List.getElem?_append_right (by omega)] at hx
      rw [us_mem _ _ (List.mem_of_getElem? hx)]
      exact .u _
  · rcases List.mem_append.1 hx with h | h
    · exact hbd x h
    · rw [us_mem _ _ h]; exact Bd.u _

theorem body_sound {A : Amb} (hA : AmbOK A) (ho : OrcOK P A orc) (hmt : MethOK P mt) (hmix : P.follows .mixedOrders = true) {sub : Sub} (hsub : SubOK P sub) {F : Nat} {f : FuncId} {d : FDef} (hd : chkF P f d = true) (hr : A = noAmb ∨ noRng d.body = true)
    {args : List AV} {m m' : Mem} {v : AV} (hrun : runC orc mt F sub d args m = some (v, m')) {w : World} {cargs : Array Value} (hH : HR ι m.hv w) (hAw : A ι m.hv w) (hargs : VRs ι args cargs.toList) (hbd : ∀ x ∈ args, Bd m.top x) :
    (∀ args w, (callFunc f args).run P w = .ok (.enter f args) w) ∧ Calls P f cargs w fun e w' => ∃ cv, e = .returned cv ∧ ∃ κ, HR κ m'.hv w' ∧ Ext ι m.hv w κ m'.hv w' ∧ VR κ v cv ∧ Bd m'.top v := by
  unfold chkF at hd
  cases hf : P.funcs[f]? with
  | none => simp [hf] at hd
  | some fn =>
    simp only [hf, Bool.and_eq_true, Nat.beq_eq, Bool.not_eq_true'] at hd
    obtain ⟨⟨⟨h1, h2⟩, h3⟩, h4⟩ := hd
    cases hb : fn.body with
    | none => simp [hb] at h3
    | some c =>
      simp only [hb] at h3
      refine ⟨fun args w => run_enter hf h2 hb args, ?_⟩
      refine (callsIn_wide (n := 0)).1 (callsIn_of_wp_marks (F := Fence.wide) hf hb trivial ?_)
      have hst : SR A ι ⟨startT d.ntmps args, m⟩ { tmps := cargs ++ Array.replicate (fn.ntmps - cargs.size) undef, defers := [] } w := ⟨start_tr h1 hargs hbd, hH, hAw⟩
      unfold runC at hrun
      cases he : exC orc mt F sub d.body ⟨startT d.ntmps args, m⟩ with
      | none => simp [he] at hrun
      | some r =>
        obtain ⟨e, s⟩ := r
        have hc := exC_sound hA ho hmt hmix F hsub d.body c h3 none 0 (hr.imp (fun h => ⟨rfl, h⟩) fun h => h)
        refine hc ι _ s e _ w hst he _ fun κ a' w' g1 g2 g3 => ?_
        obtain ⟨ms, q1, q2, q3⟩ := g3
        have fin : ∀ v', resV s d.res = some v' → v' = v → s.m = m' → LeavesInM Fence.wide 0 P fn a'.tmps (fun e w' => ∃ cv, e = .returned cv ∧ ∃ κ, HR κ m'.hv w' ∧ Ext ι m.hv w κ m'.hv w' ∧ VR κ v cv ∧ Bd m'.top v) a'.defers .returning w' := by
          intro v' hv e1 e2
          subst e1 e2
          rw [q1]
          simp only [List.append_nil]
          exact leaves_sound (s := s) (ι := ι) (H := m.hv) (w0 := w) h4 hv (fun cv w' k1 k2 k3 k4 => ⟨cv, rfl, κ, k1, k2, k3, k4⟩) ms w' q2 q3 ⟨g1.t, g1.h, trivial⟩ g2
        simp only [he] at hrun
        cases e with
        | x i => simp at hrun
        | n =>
          simp only at hrun
          cases hv : resV s d.res with
          | none => simp [hv] at hrun
          | some v' =>
            simp only [hv, Option.some.injEq, Prod.mk.injEq] at hrun
            exact fin v' hv hrun.1 hrun.2
        | r =>
          simp only at hrun
          cases hv : resV s d.res with
          | none => simp [hv] at hrun
          | some v' =>
            simp only [hv, Option.some.injEq, Prod.mk.injEq] at hrun
            exact fin v' hv hrun.1 hrun.2

theorem runC_base {sub : Sub} (hsub : SubB sub) {F : Nat} {d : FDef} {args : List AV} {m m' : Mem} {v : AV} (h : runC orc mt F sub d args m = some (v, m')) : Same m m' := by
  unfold runC at h
  split at h <;> (try (cases h; done))
  rename_i e s hne he
  have := exC_base hsub _ _ _ _ he
  split at h <;> (try (cases h; done))
  simp only [Option.some.injEq, Prod.mk.injEq] at h
  rw [← h.2]
  exact this

/-- A function's call, from what the computation has found and from what is kept of it. -/
theorem fn_sound (ho : OrcOK P noAmb orc) (hmt : MethOK P mt) (hmix : P.follows .mixedOrders = true) {sub : Sub} (hsub : SubOK P sub) {F : Nat} {f : FuncId} {d : FDef} (hd : chkF P f d = true) {args : List AV} {H : Hv} {v : AV} {m : Mem}
    (hr : runC orc mt F sub d args ⟨H.n, H.look, [], []⟩ = some (v, m)) {kept : List Nat} (hk : keptOk m kept v = true) : FnS P f args H (mkCR m kept v) := by
  intro ι w cargs hH hargs hbd
  have hfr := fresh_hv hH.dom
  have hbase := runC_base hsub.base hr
  obtain ⟨h1, h2⟩ := body_sound noAmb_ok ho hmt hmix hsub hd (.inl rfl) hr (w := w) (cargs := cargs) (ι := ι) (by rw [hfr]; exact hH) trivial hargs hbd
  rw [h1]
  refine Calls.mono h2 fun e w' ⟨cv, he, κ, g1, g2, g3, g4⟩ => ⟨cv, he, ?_⟩
  rw [hfr] at g2
  exact leave_sound hbase.n hbase.old hH g1 g2 g3 hk

theorem runF_sound (ho : OrcOK P noAmb orc) (hmt : MethOK P mt) (hmix : P.follows .mixedOrders = true) {sub : Sub} (hsub : SubOK P sub) {F : Nat} {f : FuncId} {d : FDef} (hd : chkF P f d = true) {args : List AV} {H : Hv} {c : CR} (hr : runF orc mt F sub d args H = some c) : FnS P f args H c := by
  unfold runF at hr
  split at hr <;> (try (cases hr; done))
  rename_i v m h1
  unfold leave at hr
  split at hr <;> (try (cases hr; done))
  rename_i kept h2
  cases hk : keptOk m kept v with
  | false => simp [hk] at hr
  | true =>
    simp only [hk, cond_true, Option.some.injEq] at hr
    subst hr
    exact fn_sound ho hmt hmix hsub hd h1 hk

/-- An iterator's body, run in place: no range over a function in it. -/
def sub0 : Sub := fun _ _ _ _ => none
theorem sub0_ok : SubOK P sub0 := ⟨fun _ _ _ _ _ h => by simp [sub0] at h, fun _ _ _ _ _ h => by simp [sub0] at h⟩
def subT (tab : FuncId → Option FDef) (mt : Meth) (F : Nat) : Sub := fun orc f args m =>
  match tab f with
  | some d => bif noRng d.body then (match runC orc mt F sub0 d args m with | some (_, m') => some m' | none => none) else none
  | none => none
theorem subT_ok {tab : FuncId → Option FDef} (ht : ∀ f d, tab f = some d → chkF P f d = true) (hmt : MethOK P mt) (hmix : P.follows .mixedOrders = true) (F : Nat) : SubOK P (subT tab mt F) := by
  constructor
  · intro o f args m m' h
    unfold subT at h
    split at h <;> (try (cases h; done))
    rename_i d hd
    cases hn : noRng d.body with
    | false => simp [hn] at h
    | true =>
      simp only [hn, cond_true] at h
      split at h <;> (try (cases h; done))
      rename_i v m1 h1
      simp only [Option.some.injEq] at h
      subst h
      exact runC_base (sub0_ok (P := P)).base h1
  · intro o f args m m' h
    unfold subT at h
    split at h <;> (try (cases h; done))
    rename_i d hd
    cases hn : noRng d.body with
    | false => simp [hn] at h
    | true =>
      simp only [hn, cond_true] at h
      split at h <;> (try (cases h; done))
      rename_i v m1 h1
      simp only [Option.some.injEq] at h
      subst h
      refine ⟨?_, fun A hA ho ι w cargs hH hAw hv hb => ?_⟩
      · have hd' := ht f d hd
        unfold chkF at hd'
        cases hf : P.funcs[f]? with
        | none => simp [hf] at hd'
        | some fn =>
          simp only [hf, Bool.and_eq_true, Nat.beq_eq, Bool.not_eq_true'] at hd'
          obtain ⟨⟨⟨_, h2⟩, h3⟩, _⟩ := hd'
          cases hbd : fn.body with
          | none => simp [hbd] at h3
          | some c => exact fun args w => run_enter hf h2 hbd args
      · refine Calls.mono (body_sound hA ho hmt hmix sub0_ok (ht f d hd) (.inr hn) h1 hH hAw hv hb).2 fun e w' ⟨cv, he, κ, g1, g2, _⟩ => ⟨cv, he, κ, g1, g2⟩

/-- Calls by the table, so deep as the fuel allows. -/
def orcT (tab : FuncId → Option FDef) (spec : Orc) (mt : Meth) (F : Nat) : Nat → Orc
  | 0 => fun _ _ _ => none
  | n + 1 => fun f args H => bif Nat.beq f yKey then none else match spec f args H with
    | some c => some c
    | none => match tab f with
      | some d => runF (orcT tab spec mt F n) mt F (subT tab mt F) d args H
      | none => none

theorem orcT_ok {tab : FuncId → Option FDef} {spec : Orc} (ht : ∀ f d, tab f = some d → chkF P f d = true) (hsp : ∀ f args H c, spec f args H = some c → FnS P f args H c) (hmt : MethOK P mt) (hmix : P.follows .mixedOrders = true) (F : Nat) : ∀ n, OrcOK P noAmb (orcT tab spec mt F n)
  | 0 => fun f args H c h => by simp [orcT] at h
  | n + 1 => fun f args H c h => by
    simp only [orcT] at h
    by_cases e : f = yKey
    · simp [e] at h
    · simp only [beqF e, cond_false] at h
      refine ⟨fun _ => ?_, fun h => absurd h e⟩
      split at h
      · rename_i c' hc
        cases h
        exact hsp f args H _ hc
      · split at h
        · rename_i d hd
          exact runF_sound (orcT_ok ht hsp hmt hmix F n) hmt hmix (subT_ok ht hmt hmix F) (ht f d hd) h
        · cases h

end

/-! ### Tables -/

inductive Tr where
  | l
  | n (k : Nat) (d : FDef) (a b : Tr)
def Tr.find : Tr → Nat → Option FDef
  | .l, _ => none
  | .n k d a b, f => bif Nat.beq f k then some d else bif Nat.blt f k then a.find f else b.find f
def chkTr (P : Program) : Tr → Bool
  | .l => true
  | .n k d a b => chkF P k d && (chkTr P a && chkTr P b)
theorem chkTr_spec {P : Program} : ∀ {t : Tr} {f : Nat} {d : FDef}, chkTr P t = true → t.find f = some d → chkF P f d = true
  | .l, f, d, _, h => by simp [Tr.find] at h
  | .n k e a b, f, d, hc, h => by
    simp only [chkTr, Bool.and_eq_true] at hc
    simp only [Tr.find] at h
    by_cases hk : f = k
    · subst hk; simp at h; subst h; exact hc.1
    · simp only [beqF hk, cond_false] at h
      cases hb : Nat.blt f k with
      | true => simp [hb] at h; exact chkTr_spec hc.2.1 h
      | false => simp [hb] at h; exact chkTr_spec hc.2.2 h
end Go.Em
