/- The abstract machine's quick twin: the same results, by recursors and with closed branches, for the kernel. -/
import Derived.Test.YtokhjbkkpbceeaaGreatDoorEz
namespace Go.Em
open Go
set_option linter.unusedSimpArgs false
set_option linter.unusedVariables false

noncomputable def getF (T : List AV) : Nat → AV := List.rec (motive := fun _ => Nat → AV) (fun _ => .u) (fun x _ ih n => Nat.rec x (fun m _ => ih m) n) T
theorem getF_eq : ∀ (T : List AV) (n : Nat), getF T n = (T[n]?).getD .u
  | [], n => rfl
  | x :: xs, 0 => rfl
  | x :: xs, n + 1 => by
    have := getF_eq xs n
    simpa [getF] using this
noncomputable def opdF (T : List AV) (x : Opd) : AV := Opd.rec (motive := fun _ => AV) (fun n => getF T n) (fun v => v) x
theorem opdF_eq (T : List AV) (x : Opd) : opdF T x = x.ev T := by
  cases x
  · exact getF_eq T _
  · rfl

section
variable {R : Type}
noncomputable def setK (v : AV) (T : List AV) : Nat → (List AV → Option R) → Option R :=
  List.rec (motive := fun _ => Nat → (List AV → Option R) → Option R) (fun _ k => k []) (fun x xs ih n k => Nat.rec (k (v :: xs)) (fun m _ => ih m fun r => k (x :: r)) n) T
theorem setK_eq (v : AV) : ∀ (T : List AV) (n : Nat) (k : List AV → Option R), setK v T n k = k (T.set n v)
  | [], n, k => rfl
  | x :: xs, 0, k => rfl
  | x :: xs, n + 1, k => by
    have := setK_eq v xs n fun r => k (x :: r)
    simpa [setK] using this
noncomputable def putK (T : List AV) (d : Option Nat) (v : AV) (k : List AV → Option R) : Option R := Option.rec (motive := fun _ => Option R) (k T) (fun n => setK v T n k) d
theorem putK_eq (T : List AV) (d : Option Nat) (v : AV) (k : List AV → Option R) : putK T d v k = k (putT T d v) := by
  cases d
  · rfl
  · exact setK_eq v T _ k

/-! ### One instruction -/
noncomputable def bindK (r : Option (AV × Mem)) (k : AV → Mem → Option R) : Option R :=
  Option.rec (motive := fun _ => Option R) none (fun p => Prod.rec (motive := fun _ => Option R) k p) r
end

def kPick (c a b : AV) (m : Mem) : Option (AV × Mem) := match c with
  | .b true => some (a, m)
  | .b false => some (b, m)
  | _ => none
def kBox (el es : Nat) (v : AV) (m : Mem) : Option (AV × Mem) := match v with
  | .u => none
  | v => some (.p (some (m.top, 0)), m.push (some { cells := v.cells, el := el, es := es, ro := false }))
def kLd (agg : Bool) (n : Nat) (v : AV) (m : Mem) : Option (AV × Mem) := match v with
  | .p (some (b, o)) => match rd m b o n with
    | some vs => bif agg then some (.ag vs, m) else (match vs with | [v] => some (v, m) | _ => none)
    | none => none
  | _ => none
def kSt (n : Nat) (a x : AV) (m : Mem) : Option (AV × Mem) := match a with
  | .p (some (b, o)) => match x with
    | .u => none
    | v => bif Nat.beq v.cells.length n then (wr m b o v.cells).map fun m' => (.u, m') else none
  | _ => none
def kBin (op : BinOp) (a b : AV) (m : Mem) : Option (AV × Mem) := (binF op a b).map fun v => (v, m)
def kEqB (neg : Bool) (a b : AV) (m : Mem) : Option (AV × Mem) := match a, b with
  | .b a, .b b => some (xorB neg (a == b), m)
  | _, _ => none
def kUn (op : UnOp) (a : AV) (m : Mem) : Option (AV × Mem) := (unF op a).map fun v => (v, m)
def kConv (k : IntKind) (a : AV) (m : Mem) : Option (AV × Mem) := match a with
  | .i _ n => some (.i k (k.wrap n), m)
  | _ => none
def kFad (off : Nat) (a : AV) (m : Mem) : Option (AV × Mem) := match a with
  | .p (some (a, o)) => some (.p (some (a, o + off)), m)
  | _ => none
def kExt (k : Nat) (a : AV) (m : Mem) : Option (AV × Mem) := match a with
  | .tp vs => (vs[k]?).map fun v => (v, m)
  | _ => none
def kLenT (a : AV) (m : Mem) : Option (AV × Mem) := match a with
  | .s l => some (.i .i64 l.length, m)
  | _ => none
def kLenS (a : AV) (m : Mem) : Option (AV × Mem) := match a with
  | .sl _ len _ _ => some (.i .i64 len, m)
  | _ => none
def kIad (es : Nat) (a i : AV) (m : Mem) : Option (AV × Mem) := match a with
  | .sl (some (a, o)) len _ _ => match asN i with
    | some k => bif Nat.blt k len then some (.p (some (a, o + k * es)), m) else none
    | none => none
  | _ => none
def kIdx (a i : AV) (m : Mem) : Option (AV × Mem) := match a with
  | .s l => match asN i with
    | some k => (strAt l k).map fun v => (v, m)
    | none => none
  | _ => none
def kCall (orc : Orc) (f : FuncId) (args : List AV) (m : Mem) : Option (AV × Mem) := (orcF orc f args m.hv).map fun c => (c.v, m.apply c)
noncomputable def mapF (T : List AV) (xs : List Opd) : List AV := List.rec (motive := fun _ => List AV) [] (fun x _ ih => opdF T x :: ih) xs
theorem mapF_eq (T : List AV) : ∀ xs : List Opd, mapF T xs = xs.map (·.ev T)
  | [] => rfl
  | x :: xs => by
    have := mapF_eq T xs
    show opdF T x :: mapF T xs = _
    rw [this, opdF_eq]; rfl

noncomputable def evKF (orc : Orc) (mt : Meth) (k : IK) : List AV → Mem → Option (AV × Mem) :=
  IK.casesOn (motive := fun _ => List AV → Mem → Option (AV × Mem)) k
    (mv := fun x T m => some (opdF T x, m))
    (pick := fun c a b T m => kPick (opdF T c) (opdF T a) (opdF T b) m)
    (new := fun el es zero T m => some (.p (some (m.top, 0)), m.push (some { cells := zero, el := el, es := es, ro := false })))
    (box := fun el es x T m => kBox el es (opdF T x) m)
    (build := fun zero parts T m => evK orc mt T m (.build zero parts))
    (buildS := fun el es len zero parts T m => evK orc mt T m (.buildS el es len zero parts))
    (ld := fun agg n a T m => kLd agg n (opdF T a) m)
    (st := fun n a x T m => kSt n (opdF T a) (opdF T x) m)
    (nilChk := fun x T m => evK orc mt T m (.nilChk x))
    (bin := fun op x y T m => kBin op (opdF T x) (opdF T y) m)
    (eqB := fun neg x y T m => kEqB neg (opdF T x) (opdF T y) m)
    (eqP := fun neg x y T m => evK orc mt T m (.eqP neg x y))
    (eqS := fun neg x y T m => evK orc mt T m (.eqS neg x y))
    (eqC := fun neg sh x y T m => evK orc mt T m (.eqC neg sh x y))
    (un := fun op x T m => kUn op (opdF T x) m)
    (conv := fun k x T m => kConv k (opdF T x) m)
    (bts := fun x T m => evK orc mt T m (.bts x))
    (sts := fun x T m => evK orc mt T m (.sts x))
    (mkI := fun t x T m => evK orc mt T m (.mkI t x))
    (mkF := fun f xs ys T m => evK orc mt T m (.mkF f xs ys))
    (mkS := fun el es bytes zero l c T m => evK orc mt T m (.mkS el es bytes zero l c))
    (slcS := fun es x lo hi mx T m => evK orc mt T m (.slcS es x lo hi mx))
    (slcT := fun x lo hi T m => evK orc mt T m (.slcT x lo hi))
    (slcA := fun n es x lo hi T m => evK orc mt T m (.slcA n es x lo hi))
    (fad := fun off x T m => kFad off (opdF T x) m)
    (iadS := fun es x i T m => kIad es (opdF T x) (opdF T i) m)
    (iadA := fun n es x i T m => evK orc mt T m (.iadA n es x i))
    (idxT := fun x i T m => kIdx (opdF T x) (opdF T i) m)
    (idxA := fun n es agg x i T m => evK orc mt T m (.idxA n es agg x i))
    (fld := fun off n agg x T m => evK orc mt T m (.fld off n agg x))
    (ext := fun k x T m => kExt k (opdF T x) m)
    (lenT := fun x T m => kLenT (opdF T x) m)
    (lenS := fun x T m => kLenS (opdF T x) m)
    (lenK := fun n T m => some (.i .i64 n, m))
    (capS := fun x T m => evK orc mt T m (.capS x))
    (mnmx := fun mx x y T m => evK orc mt T m (.mnmx mx x y))
    (app := fun el es bytes s x T m => evK orc mt T m (.app el es bytes s x))
    (copy := fun es d s T m => evK orc mt T m (.copy es d s))
    (call := fun f args T m => kCall orc f (mapF T args) m)
    (callV := fun f args T m => callV orc mt m (opdF T f) (mapF T args))
    (callI := fun r s args T m => evK orc mt T m (.callI r s args))
    (bad := fun T m => none)
theorem evKF_eq (orc : Orc) (mt : Meth) (k : IK) (T : List AV) (m : Mem) : evKF orc mt k T m = evK orc mt T m k := by
  cases k <;> first
    | rfl
    | (simp only [evKF, opdF_eq, mapF_eq]; first | rfl | (simp only [evK, IK.ev]; rfl))

section
variable {R : Type}
noncomputable def gdK (T : List AV) (g : Option (Nat × Bool)) (a b : Unit → Option R) : Option R :=
  Option.rec (motive := fun _ => Option R) (a ()) (fun p => Option.rec (motive := fun _ => Option R) none (fun t => Bool.rec (b ()) (a ()) t) (gd T (some p))) g
theorem gdK_eq (T : List AV) (g : Option (Nat × Bool)) (a b : Unit → Option R) : gdK T g a b = (match gd T g with | some true => a () | some false => b () | none => none) := by
  cases g with
  | none => rfl
  | some p =>
    simp only [gdK]
    cases gd T (some p) with
    | none => rfl
    | some t => cases t <;> rfl

noncomputable def stepK (orc : Orc) (mt : Meth) (o : IOp) (ih : List AV → Mem → Option R) (T : List AV) (m : Mem) : Option R :=
  IOp.rec (motive := fun _ => Option R) (fun dst k g => gdK T g (fun _ => bindK (evKF orc mt k T m) fun v m' => putK T dst v fun T' => ih T' m') (fun _ => putK T dst .u fun T' => ih T' m)) o
noncomputable def evOpsF (orc : Orc) (mt : Meth) (K : List AV → Mem → Option R) (os : List IOp) : List AV → Mem → Option R :=
  List.rec (motive := fun _ => List AV → Mem → Option R) K (fun o _ ih => stepK orc mt o ih) os
theorem evOpsF_eq (orc : Orc) (mt : Meth) (K : List AV → Mem → Option R) : ∀ (os : List IOp) (T : List AV) (m : Mem), evOpsF orc mt K os T m = (match evOps orc mt os ⟨T, m⟩ with | some s => K s.T s.m | none => none)
  | [], T, m => rfl
  | o :: os, T, m => by
    have ih := evOpsF_eq orc mt K os
    show stepK orc mt o (evOpsF orc mt K os) T m = _
    obtain ⟨dst, k, g⟩ := o
    show gdK T g (fun _ => bindK (evKF orc mt k T m) fun v m' => putK T dst v fun T' => evOpsF orc mt K os T' m') (fun _ => putK T dst .u fun T' => evOpsF orc mt K os T' m) = _
    rw [gdK_eq]
    simp only [evOps, evKF_eq, bindK, putK_eq]
    cases gd T g with
    | none => rfl
    | some b =>
      cases b with
      | false => exact ih _ _
      | true =>
        cases evK orc mt T m k with
        | none => rfl
        | some p => obtain ⟨v, m'⟩ := p; exact ih _ _
end

/-! ### Regions of open order -/
noncomputable def evLF (orc : Orc) (mt : Meth) (T : List AV) (m : Mem) (k : IK) : Option AV := match evKF orc mt k T m with | some (v, _) => some v | none => none
theorem evLF_eq (orc : Orc) (mt : Meth) (T : List AV) (m : Mem) (k : IK) : evLF orc mt T m k = evL orc mt T m k := by unfold evLF evL; rw [evKF_eq]; rfl
noncomputable def readsOkF (orc : Orc) (mt : Meth) (base : Nat) (anc : List Nat) (post : Mem) : Done → Bool
  | [] => true
  | (j, d, r) :: q => (bif Nat.beq d.kd 1 && r.ran && !memb j anc then sameV (evLF orc mt r.T (post.mask base d.msk) d.io.k) r.v else true) && readsOkF orc mt base anc post q
theorem readsOkF_eq (orc : Orc) (mt : Meth) (base : Nat) (anc : List Nat) (post : Mem) : ∀ q, readsOkF orc mt base anc post q = readsOk orc mt base anc post q
  | [] => rfl
  | (j, d, r) :: q => by simp only [readsOkF, readsOk, evLF_eq, readsOkF_eq orc mt base anc post q]
noncomputable def wroteOkF (orc : Orc) (mt : Meth) (base : Nat) (d : DOp) (T : List AV) (v : AV) : Done → Bool
  | [] => true
  | (j, e, r) :: q => (bif Nat.beq e.kd 2 && r.ran && !memb j d.anc then sameV (evLF orc mt T (r.pre.mask base d.msk) d.io.k) v else true) && wroteOkF orc mt base d T v q
theorem wroteOkF_eq (orc : Orc) (mt : Meth) (base : Nat) (d : DOp) (T : List AV) (v : AV) : ∀ q, wroteOkF orc mt base d T v q = wroteOk orc mt base d T v q
  | [] => rfl
  | (j, e, r) :: q => by simp only [wroteOkF, wroteOk, evLF_eq, wroteOkF_eq orc mt base d T v q]
noncomputable def evD1F (orc : Orc) (mt : Meth) (base : Nat) (done : Done) (d : DOp) (T : List AV) (M : Mem) : Option Rec :=
  match gd T d.io.g with
  | none => none
  | some false => bif Nat.beq d.kd 3 then none else some ⟨.u, false, T, M, M⟩
  | some true =>
    match d.kd with
    | 0 => match evKF orc mt d.io.k T M with
      | some (v, _) => some ⟨v, true, T, M, M⟩
      | none => none
    | 1 => match evLF orc mt T (M.mask base d.msk) d.io.k with
      | some v => bif wroteOkF orc mt base d T v done then some ⟨v, true, T, M, M⟩ else none
      | none => none
    | 2 => match evKF orc mt d.io.k T (M.mask base d.msk) with
      | some (v, m') =>
        let post := m'.rest M base d.msk
        bif readsOkF orc mt base d.anc post done then some ⟨v, true, T, M, post⟩ else none
      | none => none
    | 3 => match evA T (base + d.rk) d.io.k with
      | some (v, b) => some ⟨v, true, T, M, M.put (base + d.rk) (some b)⟩
      | none => none
    | _ => none
theorem evD1F_eq (orc : Orc) (mt : Meth) (base : Nat) (done : Done) (d : DOp) (T : List AV) (M : Mem) : evD1F orc mt base done d T M = evD1 orc mt base done d T M := by
  unfold evD1F evD1
  simp only [evKF_eq, evLF_eq, wroteOkF_eq, readsOkF_eq]
  rfl
noncomputable def evDF (orc : Orc) (mt : Meth) (base : Nat) : List DOp → Nat → Done → List AV → Mem → Option (List AV × Mem)
  | [], _, _, T, M => some (T, M)
  | d :: r, i, done, T, M => match evD1F orc mt base done d T M with
    | some c => putK T d.io.dst c.v fun T' => evDF orc mt base r (i + 1) ((i, d, c) :: done) T' c.post
    | none => none
theorem evDF_eq (orc : Orc) (mt : Meth) (base : Nat) : ∀ (ds : List DOp) (i : Nat) (done : Done) (T : List AV) (M : Mem), evDF orc mt base ds i done T M = evD orc mt base ds i done T M
  | [], _, _, _, _ => rfl
  | d :: r, i, done, T, M => by
    simp only [evDF, evD, evD1F_eq, putK_eq]
    cases evD1 orc mt base done d T M with
    | none => rfl
    | some c => exact evDF_eq orc mt base r _ _ _ _

/-! ### Code -/
noncomputable def exCF (orc : Orc) (mt : Meth) (F : Nat) (sub : Sub) (c : IC) : St → Option (XE × St) :=
  IC.rec (motive := fun _ => St → Option (XE × St))
    (skip := fun s => some (.n, s))
    (reg := fun ops s => evOpsF orc mt (fun T m => some (.n, ⟨T, m⟩)) ops s.T s.m)
    (dreg := fun nA ds s => match evDF orc mt s.m.top ds 0 [] s.T (s.m.pushN nA) with | some (T, M) => some (.n, ⟨T, M⟩) | none => none)
    (seq := fun _ _ iha ihb s => match iha s with
      | some (.n, s') => ihb s'
      | r => r)
    (cond := fun c _ _ iha ihb s => match opdF s.T c with
      | .b true => iha s
      | .b false => ihb s
      | _ => none)
    (block := fun id _ iha s => match iha s with
      | some (.x i, s') => bif Nat.beq i id then some (.n, s') else some (.x i, s')
      | r => r)
    (loop := fun _ iha s => iterL iha F s)
    (exit := fun id s => some (.x id, s))
    (ret := fun s => some (.r, s))
    (rng := fun g ps asg body iha ihb s => match exR orc sub g ps (two iha ihb) s with
      | some s' => some (.n, s')
      | none => none)
    (bad := fun _ => none) c
theorem exCF_eq (orc : Orc) (mt : Meth) (F : Nat) (sub : Sub) : ∀ c, exCF orc mt F sub c = exC orc mt F sub c := by
  intro c
  induction c with
  | skip => rfl
  | reg ops =>
    funext s
    show evOpsF orc mt _ ops s.T s.m = _
    rw [evOpsF_eq]
    simp only [exC]
    cases evOps orc mt ops s <;> rfl
  | dreg nA ds =>
    funext s
    show (match evDF orc mt s.m.top ds 0 [] s.T (s.m.pushN nA) with | some (T, M) => some ((XE.n, ⟨T, M⟩) : XE × St) | none => none) = _
    rw [evDF_eq]
    simp only [exC, evReg]
    cases evD orc mt s.m.top ds 0 [] s.T (s.m.pushN nA) with
    | none => rfl
    | some r => rfl
  | seq a b iha ihb =>
    funext s
    show (match exCF orc mt F sub a s with | some (XE.n, s') => exCF orc mt F sub b s' | r => r) = _
    rw [iha, ihb]; rfl
  | cond c a b iha ihb =>
    funext s
    show (match opdF s.T c with | .b true => exCF orc mt F sub a s | .b false => exCF orc mt F sub b s | _ => none) = _
    rw [iha, ihb, opdF_eq]; rfl
  | block id a iha =>
    funext s
    show (match exCF orc mt F sub a s with | some (XE.x i, s') => bif Nat.beq i id then some (XE.n, s') else some (XE.x i, s') | r => r) = _
    rw [iha]; rfl
  | loop a iha =>
    funext s
    show iterL (exCF orc mt F sub a) F s = _
    rw [iha]; rfl
  | exit id => rfl
  | ret => rfl
  | rng g ps asg body iha ihb =>
    funext s
    show (match exR orc sub g ps (two (exCF orc mt F sub asg) (exCF orc mt F sub body)) s with | some s' => some (XE.n, s') | none => none) = _
    rw [iha, ihb]; rfl
  | bad => rfl

/-! ### Functions -/
noncomputable def runCF (orc : Orc) (mt : Meth) (F : Nat) (sub : Sub) (d : FDef) (args : List AV) (m : Mem) : Option (AV × Mem) :=
  match exCF orc mt F sub d.body ⟨startT d.ntmps args, m⟩ with
  | some (.x _, _) => none
  | some (_, s) => match resV s d.res with
    | some v => some (v, s.m)
    | none => none
  | none => none
theorem runCF_eq (orc : Orc) (mt : Meth) (F : Nat) (sub : Sub) (d : FDef) (args : List AV) (m : Mem) : runCF orc mt F sub d args m = runC orc mt F sub d args m := by unfold runCF runC; rw [exCF_eq]; rfl
noncomputable def subF (tab : FuncId → Option FDef) (mt : Meth) (F : Nat) : Sub := fun orc f args m =>
  match tab f with
  | some d => bif noRng d.body then (match runCF orc mt F sub0 d args m with | some (_, m') => some m' | none => none) else none
  | none => none
theorem subF_eq (tab : FuncId → Option FDef) (mt : Meth) (F : Nat) : subF tab mt F = subT tab mt F := by
  funext orc f args m
  unfold subF subT
  simp only [runCF_eq]
  rfl
noncomputable def orcTF (tab : FuncId → Option FDef) (spec : Orc) (mt : Meth) (F : Nat) (n : Nat) : Orc :=
  Nat.rec (motive := fun _ => Orc) (fun _ _ _ => none) (fun _ ih f args H => bif Nat.beq f yKey then none else match spec f args H with
    | some c => some c
    | none => match tab f with
      | some d => match runCF ih mt F (subF tab mt F) d args ⟨H.n, H.look, [], []⟩ with
        | some (v, m) => leave m v
        | none => none
      | none => none) n
theorem orcTF_eq (tab : FuncId → Option FDef) (spec : Orc) (mt : Meth) (F : Nat) : ∀ n, orcTF tab spec mt F n = orcT tab spec mt F n
  | 0 => rfl
  | n + 1 => by
    have ih := orcTF_eq tab spec mt F n
    funext f args H
    show (bif Nat.beq f yKey then none else match spec f args H with
      | some c => some c
      | none => match tab f with
        | some d => match runCF (orcTF tab spec mt F n) mt F (subF tab mt F) d args ⟨H.n, H.look, [], []⟩ with
          | some (v, m) => leave m v
          | none => none
        | none => none) = _
    rw [ih, subF_eq]
    simp only [orcT, runF, runCF_eq]
    rfl
noncomputable def chkMF (tab : FuncId → Option FDef) (spec : Orc) (mt : Meth) (F n : Nat) : Memo → Memo → Bool
  | _, [] => true
  | M, (f, args, v) :: r => nilB (AV.refsL args) && nilB v.refs && isV v (orcTF tab (orO (memoO M) spec) mt F n f args hvE) && chkMF tab spec mt F n ((f, args, v) :: M) r
theorem chkMF_eq (tab : FuncId → Option FDef) (spec : Orc) (mt : Meth) (F n : Nat) : ∀ (l M : Memo), chkMF tab spec mt F n M l = chkM tab spec mt F n M l
  | [], _ => rfl
  | (f, args, v) :: r, M => by simp only [chkMF, chkM, orcTF_eq, chkMF_eq tab spec mt F n r]
end Go.Em
