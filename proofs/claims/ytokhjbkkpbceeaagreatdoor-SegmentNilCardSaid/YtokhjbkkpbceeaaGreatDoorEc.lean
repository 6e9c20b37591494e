/- The abstract machine's instructions: what each does, and when it may stand for an operation of the model. -/
import Derived.Test.YtokhjbkkpbceeaaGreatDoorEb
namespace Go.Em
open Go
set_option linter.unusedSimpArgs false
set_option linter.unusedVariables false

inductive Opd where
  | t (n : Nat)
  | c (v : AV)
  deriving Inhabited

def Opd.ev (T : List AV) : Opd → AV
  | .t n => (T[n]?).getD .u
  | .c v => v

inductive Leaf where
  | b | i (k : IntKind) | s
  deriving DecidableEq

inductive IK where
  | mv (x : Opd)
  | pick (c a b : Opd)
  | new (el : TypeId) (es : Nat) (zero : List AV)
  | box (el : TypeId) (es : Nat) (x : Opd)
  | build (zero : List AV) (parts : List (Nat × Nat × Opd))
  | buildS (el : TypeId) (es : Nat) (len : Nat) (zero : List AV) (parts : List (Nat × Nat × Opd))
  | ld (agg : Bool) (n : Nat) (a : Opd)
  | st (n : Nat) (a x : Opd)
  | nilChk (x : Opd)
  | bin (op : BinOp) (x y : Opd)
  | eqB (neg : Bool) (x y : Opd)
  | eqP (neg : Bool) (x y : Opd)
  | eqS (neg : Bool) (x y : Opd)
  | eqC (neg : Bool) (sh : List Leaf) (x y : Opd)
  | un (op : UnOp) (x : Opd)
  | conv (k : IntKind) (x : Opd)
  | bts (x : Opd)
  | sts (x : Opd)
  | mkI (t : TypeId) (x : Opd)
  | mkF (f : Fn) (first captured : List Opd)
  | mkS (el : TypeId) (es bytes : Nat) (zero : List AV) (l c : Opd)
  | slcS (es : Nat) (x : Opd) (lo hi mx : Option Opd)
  | slcT (x : Opd) (lo hi : Option Opd)
  | slcA (n es : Nat) (x : Opd) (lo hi : Option Opd)
  | fad (off : Nat) (x : Opd)
  | iadS (es : Nat) (x i : Opd)
  | iadA (n es : Nat) (x i : Opd)
  | idxT (x i : Opd)
  | idxA (n es : Nat) (agg : Bool) (x i : Opd)
  | fld (off n : Nat) (agg : Bool) (x : Opd)
  | ext (k : Nat) (x : Opd)
  | lenT (x : Opd)
  | lenS (x : Opd)
  | lenK (n : Nat)
  | capS (x : Opd)
  | mnmx (mx : Bool) (x y : Opd)
  | app (el : TypeId) (es bytes : Nat) (s x : Opd)
  | copy (es : Nat) (d s : Opd)
  | call (f : FuncId) (args : List Opd)
  | callV (f : Opd) (args : List Opd)
  | callI (r : Opd) (name : String) (args : List Opd)
  | bad

structure IOp where
  dst : Option Nat
  k : IK
  g : Option (Nat × Bool)

/-! ### The instructions' effects -/

def AV.cells : AV → List AV
  | .ag cs => cs
  | v => [v]

def isU : AV → Bool
  | .u => true
  | _ => false

def fillP (T : List AV) : List AV → List (Nat × Nat × Opd) → Option (List AV)
  | cs, [] => some cs
  | cs, (o, n, x) :: r =>
    let v := (x.ev T).cells
    bif isU (x.ev T) then none else bif Nat.beq v.length n then (bif Nat.ble (o + n) cs.length then fillP T (cs.take o ++ (v ++ cs.drop (o + n))) r else none) else none

def repl (z : List AV) : Nat → List AV
  | 0 => []
  | n + 1 => z ++ repl z n

def wrapB (k : IntKind) (r : BitVec k.bits) : Int := k.wrap r.toNat

def binI (op : BinOp) (k : IntKind) (a b : Int) : Option AV :=
  match op with
  | .add => some (.i k (k.wrap (a + b)))
  | .sub => some (.i k (k.wrap (a - b)))
  | .mul => some (.i k (k.wrap (a * b)))
  | .quo => if b = 0 then none else some (.i k (k.wrap (a.tdiv b)))
  | .rem => if b = 0 then none else some (.i k (a.tmod b))
  | .and => some (.i k (wrapB k (BitVec.ofInt k.bits a &&& BitVec.ofInt k.bits b)))
  | .or => some (.i k (wrapB k (BitVec.ofInt k.bits a ||| BitVec.ofInt k.bits b)))
  | .xor => some (.i k (wrapB k (BitVec.ofInt k.bits a ^^^ BitVec.ofInt k.bits b)))
  | .andNot => some (.i k (wrapB k (BitVec.ofInt k.bits a &&& ~~~(BitVec.ofInt k.bits b))))
  | .eql => some (.b (decide (a = b)))
  | .neq => some (.b (!decide (a = b)))
  | .lss => some (.b (decide (a < b)))
  | .leq => some (.b (decide (a ≤ b)))
  | .gtr => some (.b (decide (b < a)))
  | .geq => some (.b (decide (b ≤ a)))
  | _ => none

def shI (op : BinOp) (k : IntKind) (a y : Int) : Option AV :=
  if y < 0 then none else
  match op with
  | .shl => some (.i k (k.wrap (a * 2 ^ (min y.toNat k.bits))))
  | .shr => some (.i k (a.fdiv (2 ^ (min y.toNat k.bits))))
  | _ => none

def binT (op : BinOp) (x y : List UInt8) : Option AV :=
  match op with
  | .add => bif Nat.ble (x.length + y.length) 4611686018427387904 then some (.s (x ++ y)) else none
  | .eql => some (.b (x == y))
  | .neq => some (.b (!(x == y)))
  | .lss => some (.b (Op.bytesLess x y))
  | .leq => some (.b (Op.bytesLess x y || x == y))
  | .gtr => some (.b (!(Op.bytesLess x y || x == y)))
  | .geq => some (.b (!(Op.bytesLess x y)))
  | _ => none

def isSh : BinOp → Bool
  | .shl | .shr => true
  | _ => false

def binF (op : BinOp) : AV → AV → Option AV
  | .i k a, .i k' b => bif isSh op then shI op k a b else (if k = k' then binI op k a b else none)
  | .s x, .s y => binT op x y
  | _, _ => none

def unF : UnOp → AV → Option AV
  | .neg, .i k n => some (.i k (k.wrap (0 - n)))
  | .xor, .i k n => some (.i k (wrapB k (BitVec.ofInt k.bits (if k.signed then -1 else k.max) ^^^ BitVec.ofInt k.bits n)))
  | .not, .b x => some (.b (!x))
  | _, _ => none

def xorB (neg r : Bool) : AV := .b (bif neg then !r else r)

/-- Two rows of cells, compared cell by cell; each must be of its kind. -/
def eqCells : List Leaf → List AV → List AV → Option Bool
  | [], [], [] => some true
  | .b :: r, .b x :: xs, .b y :: ys => (eqCells r xs ys).map fun q => (x == y) && q
  | .i k :: r, .i k1 x :: xs, .i k2 y :: ys => if k1 = k ∧ k2 = k then (eqCells r xs ys).map fun q => decide (x = y) && q else none
  | .s :: r, .s x :: xs, .s y :: ys => (eqCells r xs ys).map fun q => (x == y) && q
  | _, _, _ => none

def bytesOf : List AV → Option (List UInt8)
  | [] => some []
  | .i .u8 n :: r => (bytesOf r).map fun q => UInt8.ofNat n.toNat :: q
  | _ => none

def asN : AV → Option Nat
  | .i _ n => if 0 ≤ n then some n.toNat else none
  | _ => none

def optN (d : Nat) (T : List AV) : Option Opd → Option Nat
  | none => some d
  | some x => asN (x.ev T)

def strAt (x : List UInt8) (k : Nat) : Option AV := (x[k]?).map fun c => .i .u8 c.toNat

def slcSF (es a o len cap : Nat) (exact : Bool) (lo hi : Nat) (mx : Option Nat) : Option AV :=
  let top := mx.getD cap
  bif Nat.ble lo hi && Nat.ble hi top && Nat.ble top cap && (exact || Nat.ble 1 cap || mx.isNone) then
    let ex := exact || mx.isSome
    bif Nat.beq lo 0 then some (.sl (some (a, o)) hi top ex)
    else bif Nat.blt lo hi then some (.sl (some (a, o + lo * es)) (hi - lo) (top - lo) ex)
    else bif ex then some (.sl (some (a, bif Nat.beq top lo then o else o + lo * es)) 0 (top - lo) true)
    else some (.sl (some (a, o)) 0 0 false)
  else none

/-- append: the new cells behind the old ones, in place or in a new block. -/
def appF (el : TypeId) (es bytes : Nat) (m : Mem) (s : AV) (news : List AV) (k : Nat) : Option (AV × Mem) :=
  match s with
  | .sl a len cap exact =>
    bif Nat.beq k 0 then some (s, m)
    else bif Nat.ble ((len + k) * bytes) 1099511627776 && Nat.ble (len + k) 1099511627776 && allOne news && Nat.ble 1 es then
      match a with
      | none => some (.sl (some (m.top, 0)) (len + k) (len + k) false, m.push (some { cells := news, el := el, es := es, ro := false }))
      | some (b, o) =>
        match m.look b with
        | none => none
        | some q =>
          bif q.ro then none
          else bif Nat.beq q.el el && Nat.beq q.es es then
            bif Nat.ble (len + k) cap then
              (wr m b (o + len * es) news).map fun m' => (.sl (some (b, o)) (len + k) cap exact, m')
            else bif exact then
              (rd m b o (len * es)).map fun olds =>
                (.sl (some (m.top, 0)) (len + k) (len + k) false, m.push (some { cells := olds ++ news, el := el, es := es, ro := false }))
            else bif Nat.beq o 0 && Nat.ble 1 len then
              (rd m b 0 (len * es)).map fun olds =>
                (.sl (some (m.top, 0)) (len + k) (len + k) false, (m.put b none).push (some { cells := olds ++ news, el := el, es := es, ro := false }))
            else none
          else none
    else none
  | _ => none

/-- The elements of what is appended or copied: a slice's first n, or a string's. -/
def srcF (es : Nat) (m : Mem) (n : Nat) : AV → Option (List AV)
  | .sl none _ _ _ => some []
  | .sl (some (a, o)) len _ _ => bif Nat.beq len 0 then some [] else rd m a o (n * es)
  | .s x => bif Nat.beq es 1 then some ((x.take n).map fun c => .i .u8 c.toNat) else none
  | _ => none

def lenF : AV → Option Nat
  | .sl _ len _ _ => some len
  | .s x => some x.length
  | _ => none

def oneF (T : List AV) (m : Mem) (x : Opd) : Option (AV × Mem) := some (x.ev T, m)

def IK.ev (T : List AV) (m : Mem) : IK → Option (AV × Mem)
  | .mv x => some (x.ev T, m)
  | .pick c a b => match c.ev T with
    | .b true => some (a.ev T, m)
    | .b false => some (b.ev T, m)
    | _ => none
  | .new el es zero => some (.p (some (m.top, 0)), m.push (some { cells := zero, el := el, es := es, ro := false }))
  | .box el es x => match x.ev T with
    | .u => none
    | v => some (.p (some (m.top, 0)), m.push (some { cells := v.cells, el := el, es := es, ro := false }))
  | .build zero parts => (fillP T zero parts).map fun cs => (.ag cs, m)
  | .buildS el es len zero parts => (fillP T (repl zero len) parts).map fun cs =>
      (.sl (some (m.top, 0)) len len true, m.push (some { cells := cs, el := el, es := es, ro := false }))
  | .ld agg n a => match a.ev T with
    | .p (some (b, o)) => match rd m b o n with
      | some vs => bif agg then some (.ag vs, m) else (match vs with | [v] => some (v, m) | _ => none)
      | none => none
    | _ => none
  | .st n a x => match a.ev T with
    | .p (some (b, o)) => match x.ev T with
      | .u => none
      | v => bif Nat.beq v.cells.length n then (wr m b o v.cells).map fun m' => (.u, m') else none
    | _ => none
  | .nilChk x => match x.ev T with
    | .p (some a) => some (.p (some a), m)
    | .fn (.func f) a b => some (.fn (.func f) a b, m)
    | .ifc t v => some (.ifc t v, m)
    | _ => none
  | .bin op x y => (binF op (x.ev T) (y.ev T)).map fun v => (v, m)
  | .eqB neg x y => match x.ev T, y.ev T with
    | .b a, .b b => some (xorB neg (a == b), m)
    | _, _ => none
  | .eqP neg x y => match x.ev T, y.ev T with
    | .p none, .p none => some (xorB neg true, m)
    | .p (some _), .p none => some (xorB neg false, m)
    | .p none, .p (some _) => some (xorB neg false, m)
    | .p (some (a, o)), .p (some (a', o')) => bif Nat.beq a a' then some (xorB neg (Nat.beq o o'), m) else none
    | _, _ => none
  | .eqS neg x y => match x.ev T, y.ev T with
    | .sl none _ _ _, .sl a _ _ _ => some (xorB neg a.isNone, m)
    | .sl (some _) _ _ _, .sl none _ _ _ => some (xorB neg false, m)
    | _, _ => none
  | .eqC neg sh x y => match x.ev T, y.ev T with
    | .ag xs, .ag ys => (eqCells sh xs ys).map fun q => (xorB neg q, m)
    | _, _ => none
  | .un op x => (unF op (x.ev T)).map fun v => (v, m)
  | .conv k x => match x.ev T with
    | .i _ n => some (.i k (k.wrap n), m)
    | _ => none
  | .bts x => match x.ev T with
    | .sl none _ _ _ => some (.s [], m)
    | .sl (some (a, o)) len _ _ => bif Nat.beq len 0 then some (.s [], m) else
      (match rd m a o len with
       | some vs => (bytesOf vs).map fun l => (.s l, m)
       | none => none)
    | _ => none
  | .sts x => match x.ev T with
    | .s l => some (.s l, m)
    | _ => none
  | .mkI t x => match x.ev T with
    | .u => none
    | v => some (.ifc t v, m)
  | .mkF f first captured => some (.fn f (first.map (·.ev T)) (captured.map (·.ev T)), m)
  | .mkS el es bytes zero l c => match asN (l.ev T), asN (c.ev T) with
    | some len, some cap => bif Nat.ble len cap && Nat.ble (bytes * cap) 1099511627776 && Nat.ble cap 1099511627776 && Nat.ble 1 es then
        some (.sl (some (m.top, 0)) len cap true, m.push (some { cells := repl zero cap, el := el, es := es, ro := false })) else none
    | _, _ => none
  | .slcS es x lo hi mx => match x.ev T with
    | .sl (some (a, o)) len cap exact => match m.look a with
      | some q => bif Nat.beq q.es es then
        (match optN 0 T lo, optN len T hi, (match mx with | none => some none | some y => (asN (y.ev T)).map some) with
         | some l, some h, some mx' => (slcSF es a o len cap exact l h mx').map fun v => (v, m)
         | _, _, _ => none) else none
      | none => none
    | .sl none _ _ _ => match optN 0 T lo, optN 0 T hi, optN 0 T mx with
      | some 0, some 0, some 0 => some (.sl none 0 0 true, m)
      | _, _, _ => none
    | _ => none
  | .slcT x lo hi => match x.ev T with
    | .s l => match optN 0 T lo, optN l.length T hi with
      | some a, some b => bif Nat.ble a b && Nat.ble b l.length then some (.s ((l.drop a).take (b - a)), m) else none
      | _, _ => none
    | _ => none
  | .slcA n es x lo hi => match x.ev T with
    | .p (some (a, o)) => match m.look a with
      | some q => bif Nat.beq q.es es && Nat.beq o 0 && Nat.beq q.cells.length (n * es) && !q.ro then
        (match optN 0 T lo, optN n T hi with
         | some l, some h => (slcSF es a o n n true l h none).map fun v => (v, m)
         | _, _ => none) else none
      | none => none
    | _ => none
  | .fad off x => match x.ev T with
    | .p (some (a, o)) => some (.p (some (a, o + off)), m)
    | _ => none
  | .iadS es x i => match x.ev T with
    | .sl (some (a, o)) len _ _ => match asN (i.ev T) with
      | some k => bif Nat.blt k len then some (.p (some (a, o + k * es)), m) else none
      | none => none
    | _ => none
  | .iadA n es x i => match x.ev T with
    | .p (some (a, o)) => match asN (i.ev T) with
      | some k => bif Nat.blt k n then some (.p (some (a, o + k * es)), m) else none
      | none => none
    | _ => none
  | .idxT x i => match x.ev T with
    | .s l => match asN (i.ev T) with
      | some k => (strAt l k).map fun v => (v, m)
      | none => none
    | _ => none
  | .idxA n es agg x i => match x.ev T with
    | .ag cs => match asN (i.ev T) with
      | some k => bif Nat.blt k n && Nat.ble (k * es + es) cs.length then
          (bif agg then some (.ag ((cs.drop (k * es)).take es), m) else (cs[k * es]?).map fun v => (v, m)) else none
      | none => none
    | _ => none
  | .fld off n agg x => match x.ev T with
    | .ag cs => bif Nat.ble (off + n) cs.length then (bif agg then some (.ag ((cs.drop off).take n), m) else (cs[off]?).map fun v => (v, m)) else none
    | _ => none
  | .ext k x => match x.ev T with
    | .tp vs => (vs[k]?).map fun v => (v, m)
    | _ => none
  | .lenT x => match x.ev T with
    | .s l => some (.i .i64 l.length, m)
    | _ => none
  | .lenS x => match x.ev T with
    | .sl _ len _ _ => some (.i .i64 len, m)
    | _ => none
  | .lenK n => some (.i .i64 n, m)
  | .capS x => match x.ev T with
    | .sl _ _ cap true => some (.i .i64 cap, m)
    | _ => none
  | .mnmx mx x y => match x.ev T, y.ev T with
    | .i k a, .i k' b => if k = k' then some (.i k (bif mx then (if b > a then b else a) else (if b < a then b else a)), m) else none
    | _, _ => none
  | .app el es bytes s x => match lenF (x.ev T) with
    | some n => match srcF es m n (x.ev T) with
      | some news => appF el es bytes m (s.ev T) news n
      | none => none
    | none => none
  | .copy es d s => match d.ev T, lenF (s.ev T) with
    | .sl a len _ _, some n => match srcF es m (min n len) (s.ev T) with
      | some vs => match a with
        | none => some (.i .i64 (min n len : Nat), m)
        | some (b, o) => bif Nat.beq (min n len) 0 then some (.i .i64 (min n len : Nat), m) else
          (match m.look b with
           | some q => bif Nat.beq q.es es then (wr m b o vs).map fun m' => (.i .i64 (min n len : Nat), m') else none
           | none => none)
      | none => none
    | _, _ => none
  | .call .. | .callV .. | .callI .. | .bad => none

end Go.Em
