/- The abstract machine, part 0: A0 A1 A2 A3 A4 A5 A6 A7 A8 A9 A10 A11 A12 A13. -/
import GoSem.Dispatch
import Derived.Calls
import Derived.Below
import Derived.Lib.Fields
import Derived.Lib.DecodeN
import Derived.ChangeKeysEq
import Derived.Laws.Entries
section
set_option linter.unusedSimpArgs false
set_option linter.unusedVariables false
set_option linter.unusedVariables false
set_option linter.unusedSimpArgs false
namespace Go.Proofs.Ytodgdmhifbnofaa.AM
inductive Tree where
  | sc (v : Value)
  | agg (cs : List Tree)
  | tup (vs : List Tree)
  | row (cs : List Tree) (n : Nat) (cap : Option Nat)
  | rptr (cs : List Tree) (off : Nat)
  | fn (f : Fn) (first captured : List Tree)
  | iface (t : TypeId) (v : Tree)
  deriving Inhabited
inductive V where
  | tr (t : Tree)
  | agg (cs : List V)
  | tup (vs : List V)
  | own (id g off len sz : Nat) (cap : Option Nat)
  | ptr (id g off : Nat)
  | fn (f : Fn) (first captured : List V)
  | mp (id : Nat)
  | iface (t : TypeId) (v : V)
  deriving Inhabited
structure Ent where
  key : Value
  val : V
  born : Nat
  deriving Inhabited
inductive Ob where
  | row (cells : List V) (g : Nat)
  | fro (cells : List Tree) (g : Nat)
  | map (es : List Ent) (clock : Nat)
  deriving Inhabited
def genOf : Ob → Nat
  | .row _ g => g
  | .fro _ g => g
  | .map _ _ => 0
abbrev Store := List Ob
def int (k : IntKind) (n : Int) : V := .tr (.sc (.int k n))
def bool (b : Bool) : V := .tr (.sc (.bool b))
def nilSl : V := .tr (.sc (.slice none 0 0))
def allTr : List V → Option (List Tree)
  | [] => some []
  | .tr t :: vs => match allTr vs with | some ts => some (t :: ts) | none => none
  | _ :: _ => none
def mkAgg (cs : List V) : V := match allTr cs with | some ts => .tr (.agg ts) | none => .agg cs
def mkTup (cs : List V) : V := match allTr cs with | some ts => .tr (.tup ts) | none => .tup cs
def cellsOf : V → List V
  | .agg cs => cs
  | .tr (.agg ts) => ts.map .tr
  | .tr (.sc (.agg cs)) => cs.toList.map fun v => .tr (.sc v)
  | v => [v]
def ofCells (isAgg : Bool) (cs : List V) : Option V :=
  match isAgg, cs with
  | true, cs => some (mkAgg cs)
  | false, [c] => some c
  | false, _ => none
def slice? {α : Type} (l : List α) (off n : Nat) : Option (List α) :=
  let r := (l.drop off).take n
  if r.length = n then some r else none
def obCells (σ : Store) (id g : Nat) : Option (List V) :=
  match σ[id]? with
  | some (.row cs g') => if g = g' then some cs else none
  | some (.fro ts g') => if g = g' then some (ts.map .tr) else none
  | _ => none
def elems (σ : Store) (size : Nat) : V → Option (List V × Nat)
  | .tr (.sc (.slice none 0 0)) => some ([], 0)
  | .tr (.row cs n _) => if cs.length = n * size then some (cs.map .tr, n) else none
  | .tr (.sc (.string s)) => if size = 1 then some (s.data.toList.map fun b => .tr (.sc (.int .u8 b.toNat)), s.data.toList.length) else none
  | .own id g off len sz _ => if sz = size then match obCells σ id g with
    | some cs => match slice? cs off (len * size) with
      | some r => some (r, len)
      | none => none
    | none => none
    else none
  | _ => none
def asIdx? : V → Option Nat
  | .tr (.sc (.int _ n)) => if 0 ≤ n then some n.toNat else none
  | _ => none
def asBool? : V → Option Bool
  | .tr (.sc (.bool b)) => some b
  | _ => none
end Go.Proofs.Ytodgdmhifbnofaa.AM
end
section
set_option linter.unusedSimpArgs false
set_option linter.unusedVariables false
set_option linter.unusedVariables false
set_option linter.unusedSimpArgs false
namespace Go.Proofs.Ytodgdmhifbnofaa.AM
def bytesLt : List UInt8 → List UInt8 → Bool
  | _, [] => false
  | [], _ :: _ => true
  | a :: x, b :: y => Nat.blt a.toNat b.toNat || (Nat.beq a.toNat b.toNat && bytesLt x y)
def bytesEq : List UInt8 → List UInt8 → Bool
  | [], [] => true
  | a :: x, b :: y => Nat.beq a.toNat b.toNat && bytesEq x y
  | _, _ => false
def binInt (op : BinOp) (k : IntKind) (a b : Int) : Option Value :=
  match op with
  | .add => some (.int k (k.wrap (a + b)))
  | .sub => some (.int k (k.wrap (a - b)))
  | .mul => some (.int k (k.wrap (a * b)))
  | .quo => if b = 0 then none else some (.int k (k.wrap (a.tdiv b)))
  | .rem => if b = 0 then none else some (.int k (a.tmod b))
  | .and => some (.int k (k.wrap (BitVec.ofInt k.bits a &&& BitVec.ofInt k.bits b).toNat))
  | .or => some (.int k (k.wrap (BitVec.ofInt k.bits a ||| BitVec.ofInt k.bits b).toNat))
  | .xor => some (.int k (k.wrap (BitVec.ofInt k.bits a ^^^ BitVec.ofInt k.bits b).toNat))
  | .andNot => some (.int k (k.wrap (BitVec.ofInt k.bits a &&& ~~~BitVec.ofInt k.bits b).toNat))
  | .eql => some (.bool (a == b))
  | .neq => some (.bool (a != b))
  | .lss => some (.bool (a < b))
  | .leq => some (.bool (a ≤ b))
  | .gtr => some (.bool (a > b))
  | .geq => some (.bool (a ≥ b))
  | _ => none
def binShift (op : BinOp) (k : IntKind) (a b : Int) : Option Value :=
  if b < 0 then none else
  match op with
  | .shl => some (.int k (k.wrap (a * 2 ^ (min b.toNat k.bits))))
  | .shr => some (.int k (a.fdiv (2 ^ (min b.toNat k.bits))))
  | _ => none
def binStr (op : BinOp) (x y : ByteArray) : Option Value :=
  let a := x.data.toList
  let b := y.data.toList
  match op with
  | .add => if a.length + b.length ≤ 2 ^ 62 then some (.string ⟨⟨a ++ b⟩⟩) else none
  | .eql => some (.bool (bytesEq a b))
  | .neq => some (.bool (!bytesEq a b))
  | .lss => some (.bool (bytesLt a b))
  | .leq => some (.bool (bytesLt a b || bytesEq a b))
  | .gtr => some (.bool (!(bytesLt a b || bytesEq a b)))
  | .geq => some (.bool (!bytesLt a b))
  | _ => none
def binFloat (op : BinOp) (k : FloatKind) (x y : Nat) : Option Value :=
  match op with
  | .add => (k.format.add x y).map (.float k)
  | .sub => (k.format.sub x y).map (.float k)
  | .mul => (k.format.mul x y).map (.float k)
  | .quo => (k.format.div x y).map (.float k)
  | .eql => some (.bool (k.format.order x y == some .eq))
  | .neq => some (.bool (k.format.order x y != some .eq))
  | .lss => some (.bool (k.format.order x y == some .lt))
  | .leq => some (.bool (k.format.order x y == some .lt || k.format.order x y == some .eq))
  | .gtr => some (.bool (k.format.order x y == some .gt))
  | .geq => some (.bool (k.format.order x y == some .gt || k.format.order x y == some .eq))
  | _ => none
inductive EK where
  | other
  | bool
  | slice
  | pointer
  | map
  | func
  deriving DecidableEq, Inhabited
def binSc (ek : EK) (op : BinOp) : Value → Value → Option Value
  | .int k a, .int k' b =>
    match op with
    | .shl | .shr => binShift op k a b
    | _ => if k = k' then binInt op k a b else none
  | .string a, .string b => binStr op a b
  | .float k a, .float k' b => if k = k' then binFloat op k a b else none
  | .bool a, .bool b => match ek, op with | .bool, .eql => some (.bool (a == b)) | .bool, .neq => some (.bool (!(a == b))) | _, _ => none
  | _, _ => none
def notNil : EK → V → Bool
  | .slice, .tr (.row _ _ _) => true
  | .slice, .own .. => true
  | .pointer, .tr (.rptr _ _) => true
  | .pointer, .ptr .. => true
  | .func, .tr (.fn _ _ _) => true
  | .func, .fn .. => true
  | .map, .mp _ => true
  | _, _ => false
def isNil : EK → V → Bool
  | .slice, .tr (.sc (.slice none _ _)) => true
  | .func, .tr (.sc .nilFunc) => true
  | .pointer, .tr (.sc (.pointer none)) => true
  | .map, .tr (.sc (.map none)) => true
  | _, _ => false
def eqAns (op : BinOp) (b : Bool) : Option V :=
  match op with | .eql => some (bool b) | .neq => some (bool (!b)) | _ => none
def opBin (ek : EK) (op : BinOp) (x y : V) : Option V :=
  if isNil ek x then (if isNil ek y then eqAns op true else if notNil ek y then eqAns op false else none)
  else if notNil ek x then (if isNil ek y then eqAns op false else none)
  else match x, y with
    | .tr (.sc a), .tr (.sc b) => match binSc ek op a b with | some v => some (.tr (.sc v)) | none => none
    | _, _ => none
def eqSc (kc : Nat) (x y : Value) : Option Bool := match kc with
  | 0 => match x, y with | .int k a, .int k' b => if k = k' then some (a == b) else none | _, _ => none
  | 1 => match x, y with | .string a, .string b => some (bytesEq a.data.toList b.data.toList) | _, _ => none
  | _ => match x, y with | .bool a, .bool b => some (a == b) | _, _ => none
def eqAt : List (Nat × Nat) → List Tree → List Tree → Option Bool
  | [], _, _ => some true
  | (o, kc) :: r, xs, ys => match xs[o]?, ys[o]? with
    | some (.sc a), some (.sc b) => match eqSc kc a b with
      | some true => eqAt r xs ys
      | some false => some false
      | none => none
    | _, _ => none
def opEqs (neg : Bool) (offs : List (Nat × Nat)) : V → V → Option V
  | .tr (.agg xs), .tr (.agg ys) => match eqAt offs xs ys with
    | some b => some (bool (if neg then !b else b))
    | none => none
  | _, _ => none
def opUn (op : UnOp) (x : V) : Option V :=
  match op, x with
  | .neg, .tr (.sc (.int k n)) => some (.tr (.sc (.int k (k.wrap (0 - n)))))
  | .xor, .tr (.sc (.int k n)) => (binInt .xor k (if k.signed then -1 else k.max) n).map fun v => .tr (.sc v)
  | .not, .tr (.sc (.bool b)) => some (bool (!b))
  | .neg, .tr (.sc (.float k b)) => some (.tr (.sc (.float k (Op.negFloat k b))))
  | _, _ => none
inductive Conv where
  | toInt (k : IntKind)
  | toFloat (k : FloatKind)
  | strStr
  | bytesStr
  | strBytes
  | same
  deriving Inhabited
def bytesOf? : List V → Option (List UInt8)
  | [] => some []
  | .tr (.sc (.int .u8 n)) :: r => if 0 ≤ n ∧ n < 256 then match bytesOf? r with | some l => some (UInt8.ofNat n.toNat :: l) | none => none else none
  | _ :: _ => none
def room (n bytes : Nat) : Bool := Nat.ble (n * (bytes + 1)) (2 ^ 38)
def opSame (x : V) (σ : Store) : Option V := match x with
  | .own id g off len sz cap => match σ[id]? with
    | some (.row _ g') => if g = g' ∧ 0 < len ∧ sz = 1 then some (.own id g off len sz cap) else none
    | _ => none
  | _ => none
def opConv (c : Conv) (x : V) (σ : Store) : Option (V × Store) :=
  match c, x with
  | .toInt k, .tr (.sc (.int _ n)) => some (.tr (.sc (.int k (k.wrap n))), σ)
  | .toInt k, .tr (.sc (.float s b)) =>
    match (s.decode b).toInt .zero with
    | some n => if k.min ≤ n ∧ n ≤ k.max then some (.tr (.sc (.int k n)), σ) else none
    | none => none
  | .toFloat k, .tr (.sc (.int _ n)) => some (.tr (.sc (.float k (k.nearest n))), σ)
  | .toFloat k, .tr (.sc (.float s b)) => if s = k then some (.tr (.sc (.float k b)), σ) else
    match s.decode b with
    | .nan _ _ => none
    | .infinity sg => some (.tr (.sc (.float k (k.encode (.infinity sg)))), σ)
    | .number sg m e => if (k.decode (k.encode (.number sg m e))).isInfinity then none else some (.tr (.sc (.float k (k.encode (.number sg m e)))), σ)
  | .strStr, .tr (.sc (.string s)) => some (.tr (.sc (.string s)), σ)
  | .same, x => match opSame x σ with | some v => some (v, σ) | none => none
  | .bytesStr, x => match elems σ 1 x with
    | some (cs, _) => match x with
      | .tr (.sc (.string _)) => none
      | _ => match bytesOf? cs with
        | some l => some (.tr (.sc (.string ⟨⟨l⟩⟩)), σ)
        | none => none
    | none => none
  | .strBytes, .tr (.sc (.string s)) =>
    some (.own σ.length 0 0 s.data.toList.length 1 none, σ ++ [.row (s.data.toList.map fun b => .tr (.sc (.int .u8 b.toNat))) 0])
  | _, _ => none
def opBox (v : V) (σ : Store) : Option (V × Store) := some (.ptr σ.length 0 0, σ ++ [.row (cellsOf v) 0])
def opBoxB (t : Bool) (v : V) (σ : Store) : Option (V × Store) := match t with
  | true => match allTr (cellsOf v) with
    | some ts => some (.tr (.rptr ts 0), σ)
    | none => opBox v σ
  | false => opBox v σ
def opAlloc (zero : List Tree) (σ : Store) : Option (V × Store) := some (.ptr σ.length 0 0, σ ++ [.row (zero.map .tr) 0])
def opLoad (size : Nat) (isAgg : Bool) (a : V) (σ : Store) : Option V :=
  match a with
  | .ptr id g off => match obCells σ id g with
    | some cs => match slice? cs off size with
      | some r => ofCells isAgg r
      | none => none
    | none => none
  | .tr (.rptr cs off) => match slice? cs off size with
    | some r => ofCells isAgg (r.map .tr)
    | none => none
  | _ => none
def opLdt (size : Nat) (isAgg : Bool) (a : V) : Option V :=
  match a with
  | .tr (.rptr cs off) => match slice? cs off size with
    | some r => ofCells isAgg (r.map .tr)
    | none => none
  | _ => none
def splice (l : List V) (off : Nat) (r : List V) : List V := l.take off ++ r ++ l.drop (off + r.length)
def oneV : V → Bool
  | .agg _ | .tup _ | .tr (.agg _) | .tr (.tup _) | .tr (.sc (.agg _)) | .tr (.sc (.tuple _)) => false
  | _ => true
def obPut (σ : Store) (id g off : Nat) (r : List V) : Option Store :=
  match σ[id]? with
  | some (.row cs g') => if g = g' ∧ off + r.length ≤ cs.length ∧ r.all oneV = true then some (σ.set id (.row (splice cs off r) g')) else none
  | _ => none
def opStore (size : Nat) (a x : V) (σ : Store) : Option Store :=
  match a with
  | .ptr id g off => if (cellsOf x).length = size then obPut σ id g off (cellsOf x) else none
  | _ => none
def opFaddr (off : Nat) : V → Option V
  | .ptr id g o => some (.ptr id g (o + off))
  | .tr (.rptr cs o) => some (.tr (.rptr cs (o + off)))
  | _ => none
def opIaddr (size : Nat) (x i : V) (σ : Store) : Option V :=
  match asIdx? i with
  | none => none
  | some i => match x with
    | .own id g off len sz _ => match σ[id]? with
      | some ob => if i < len ∧ sz = size ∧ g = genOf ob then some (.ptr id g (off + i * size)) else none
      | none => none
    | .tr (.row cs n _) => if i < n ∧ cs.isEmpty = false then some (.tr (.rptr cs (i * size))) else none
    | _ => none
def opIndexStr (x i : V) : Option V :=
  match x, asIdx? i with
  | .tr (.sc (.string s)), some i => match s.data.toList[i]? with
    | some b => some (int .u8 b.toNat)
    | none => none
  | _, _ => none
def opField (off size : Nat) (isAgg : Bool) (x : V) : Option V :=
  match x with
  | .agg cs => match slice? cs off size with | some r => ofCells isAgg r | none => none
  | .tr (.agg ts) => match slice? ts off size with | some r => ofCells isAgg (r.map .tr) | none => none
  | .tr (.sc (.agg cs)) => match slice? cs.toList off size with | some r => ofCells isAgg (r.map fun v => .tr (.sc v)) | none => none
  | _ => none
def fillV : List V → List (Nat × Nat × V) → Option (List V)
  | cs, [] => some cs
  | cs, (off, size, v) :: r =>
    if (cellsOf v).length = size then if off + size ≤ cs.length then fillV (splice cs off (cellsOf v)) r else none else none
def opBuild (zero : List Tree) (parts : List (Nat × Nat × V)) : Option V :=
  match fillV (zero.map .tr) parts with
  | some cs => some (mkAgg cs)
  | none => none
def rep {α : Type} (n : Nat) (l : List α) : List α := match n with | 0 => [] | n + 1 => l ++ rep n l
def opBslice (own : Bool) (len size : Nat) (zero : List Tree) (parts : List (Nat × Nat × V)) (σ : Store) : Option (V × Store) :=
  match fillV ((rep len zero).map .tr) parts with
  | some cs =>
    if own then some (.own σ.length 0 0 len size (some len), σ ++ [.row cs 0]) else
    match allTr cs with
    | some ts => some (.tr (.row ts len (some len)), σ)
    | none => none
  | none => none
def opMkslice (zero : List Tree) (bytes : Nat) (l c : V) (σ : Store) : Option (V × Store) :=
  match asIdx? l, asIdx? c with
  | some l, some c =>
    if l ≤ c ∧ room c bytes then some (.own σ.length 0 0 l zero.length (some c), σ ++ [.row ((rep c zero).map .tr) 0]) else none
  | _, _ => none
def optIdx : Option V → Option (Option Nat)
  | none => some none
  | some v => match asIdx? v with | some i => some (some i) | none => none
def opSliceStr (x : V) (lo hi : Option V) : Option V :=
  match x, optIdx lo, optIdx hi with
  | .tr (.sc (.string s)), some lo, some hi =>
    let n := s.data.toList.length
    let h := hi.getD n
    let l := lo.getD 0
    if h ≤ n ∧ l ≤ h then some (.tr (.sc (.string ⟨⟨(s.data.toList.take h).drop l⟩⟩))) else none
  | _, _, _ => none
def leCap (m : Nat) : Option Nat → Bool
  | some c => Nat.ble m c
  | none => false
def cutCap (cap mx : Option Nat) (l : Nat) : Option Nat :=
  match mx with
  | some m => some (m - l)
  | none => match cap with | some c => some (c - l) | none => none
def opSlice (size : Nat) (x : V) (lo hi mx : Option V) (σ : Store) : Option V :=
  match optIdx lo, optIdx hi, optIdx mx with
  | some lo, some hi, some mx =>
    if mx.isSome && hi.isNone then none else
    let l := lo.getD 0
    match x with
    | .own id g off len sz cap =>
      if sz ≠ size then none else
      match obCells σ id g with
      | none => none
      | some cs =>
        let h := hi.getD len
        let m := mx.getD h
        if l ≤ h ∧ h ≤ m ∧ (m ≤ len ∨ (cap = none ∧ off + m * size ≤ cs.length ∧ 0 < size) ∨ leCap m cap = true) then
          some (.own id g (off + l * size) (h - l) size (cutCap cap mx l))
        else none
    | .tr (.row cs n cap) =>
      let h := hi.getD n
      let m := mx.getD h
      if l ≤ h ∧ h ≤ n ∧ h ≤ m ∧ (m ≤ n ∨ leCap m cap = true) ∧ cs.length = n * size then
        some (.tr (.row ((cs.drop (l * size)).take ((h - l) * size)) (h - l) (cutCap cap mx l)))
      else none
    | .tr (.sc (.slice none 0 0)) => if l = 0 ∧ hi.getD 0 = 0 ∧ mx.getD 0 = 0 then some nilSl else none
    | _ => none
  | _, _, _ => none
def opLenStr : V → Option V
  | .tr (.sc (.string s)) => some (int .i64 s.data.toList.length)
  | _ => none
def opLenSl : V → Option V
  | .tr (.sc (.slice none 0 0)) => some (int .i64 0)
  | .tr (.row _ n _) => some (int .i64 n)
  | .own _ _ _ n _ _ => some (int .i64 n)
  | _ => none
def opLenMap (σ : Store) : V → Option V
  | .tr (.sc (.map none)) => some (int .i64 0)
  | .mp id => match σ[id]? with
    | some (.map es _) => some (int .i64 es.length)
    | _ => none
  | _ => none
def opLen (k : Nat) (v : V) (σ : Store) : Option V :=
  match k with
  | 0 => opLenStr v
  | 1 => opLenSl v
  | _ => opLenMap σ v
def opCap (σ : Store) : V → Option V
  | .tr (.sc (.slice none 0 0)) => some (int .i64 0)
  | .tr (.row _ _ (some c)) => some (int .i64 c)
  | .own id g _ _ _ (some c) => match σ[id]? with
    | some ob => if g = genOf ob then some (int .i64 c) else none
    | none => none
  | _ => none
def opAppend (size bytes : Nat) (s x : V) (σ : Store) : Option (V × Store) :=
  match elems σ size x with
  | none => none
  | some (xs, n) =>
    if !room n bytes then none else
    match s with
    | .tr (.sc (.slice none 0 0)) =>
      if n = 0 then some (s, σ) else some (.own σ.length 0 0 n size none, σ ++ [.row xs 0])
    | .tr (.row cs len cap) =>
      if n = 0 then some (s, σ) else
      if cs.length = len * size ∧ room len bytes then
        match cap with
        | some c => if len + n ≤ c then none else some (.own σ.length 0 0 (len + n) size none, σ ++ [.row (cs.map .tr ++ xs) 0])
        | none => none
      else none
    | .own id g off len sz cap =>
      if sz ≠ size then none else
      if !room len bytes then none else
      match σ[id]? with
      | some (.row cs g') =>
        if g ≠ g' then none else
        match slice? cs off (len * size) with
        | none => none
        | some old =>
          if n = 0 then some (s, σ) else
          match cap with
          | some c =>
            if len + n ≤ c then
              match obPut σ id g (off + len * size) xs with
              | some σ' => some (.own id g off (len + n) size cap, σ')
              | none => none
            else some (.own σ.length 0 0 (len + n) size none, σ ++ [.row (old ++ xs) 0])
          | none =>
            if off + (len + n) * size ≤ cs.length ∧ 0 < size then
              match obPut σ id g (off + len * size) xs with
              | some σ' => some (.own id g off (len + n) size cap, σ')
              | none => none
            else if xs.all oneV then some (.own id (g + 1) 0 (len + n) size none, σ.set id (.row (old ++ xs) (g + 1)))
            else none
      | _ => none
    | _ => none
def opCopy (size : Nat) (d x : V) (σ : Store) : Option (V × Store) :=
  match elems σ size x with
  | none => none
  | some (xs, n) =>
    match d with
    | .tr (.sc (.slice none 0 0)) => some (int .i64 0, σ)
    | .own id g off len sz _ =>
      if sz ≠ size then none else
      if Nat.min n len = 0 then some (int .i64 0, σ) else
      match obPut σ id g off (xs.take (Nat.min n len * size)) with
      | some σ' => some (int .i64 (Nat.min n len : Nat), σ')
      | none => none
    | .tr (.row _ len _) => if Nat.min n len = 0 then some (int .i64 0, σ) else none
    | _ => none
def opClear (zero : List Tree) (x : V) (σ : Store) : Option (V × Store) :=
  match x with
  | .tr (.sc (.slice none 0 0)) => some (.tr (.tup []), σ)
  | .tr (.row _ 0 _) => some (.tr (.tup []), σ)
  | .own _ _ _ 0 _ _ => some (.tr (.tup []), σ)
  | .own id g off len sz _ =>
    if sz ≠ zero.length then none else
    match obPut σ id g off ((rep len zero).map .tr) with
    | some σ' => some (.tr (.tup []), σ')
    | none => none
  | _ => none
def opMinMax (isMax : Bool) : V → V → Option V
  | .tr (.sc (.int k x)), .tr (.sc (.int _ y)) => some (int k (if isMax then (if y > x then y else x) else (if y < x then y else x)))
  | _, _ => none
def opExtract (x : V) (i : Nat) : Option V :=
  match x with
  | .tup vs => vs[i]?
  | .tr (.tup ts) => (ts[i]?).map .tr
  | _ => none
def opNilCheck : V → Option V
  | .ptr id g off => some (.ptr id g off)
  | .tr (.rptr cs off) => some (.tr (.rptr cs off))
  | .fn (.func f) a b => some (.fn (.func f) a b)
  | .tr (.fn (.func f) a b) => some (.tr (.fn (.func f) a b))
  | _ => none
def keyEq : Value → Value → Option Bool
  | .int k a, .int k' b => if k = k' then some (a == b) else none
  | .string a, .string b => some (bytesEq a.data.toList b.data.toList)
  | .bool a, .bool b => some (a == b)
  | _, _ => none
def findEnt (k : Value) : List Ent → Nat → Option (Option (Nat × Ent))
  | [], _ => some none
  | e :: es, i => match keyEq k e.key with
    | some true => some (some (i, e))
    | some false => findEnt k es (i + 1)
    | none => none
def asKey (kind : TypeDesc) : V → Option Value
  | .tr (.sc (.int k n)) => match kind with | .int _ => some (.int k n) | _ => none
  | .tr (.sc (.string s)) => match kind with | .string => some (.string s) | _ => none
  | .tr (.sc (.bool b)) => match kind with | .bool => some (.bool b) | _ => none
  | _ => none
def opMkmap (σ : Store) : Option (V × Store) := some (.mp σ.length, σ ++ [.map [] 0])
def okTup (ok : Bool) (v : V) (b : Bool) : V := if ok then mkTup [v, bool b] else v
def opLookup (kind : TypeDesc) (zero : Tree) (ok : Bool) (m k : V) (σ : Store) : Option V :=
  match asKey kind k, m with
  | some _, .tr (.sc (.map none)) => some (okTup ok (.tr zero) false)
  | some k, .mp id => match σ[id]? with
    | some (.map es _) => match findEnt k es 0 with
      | some (some (_, e)) => some (okTup ok e.val true)
      | some none => some (okTup ok (.tr zero) false)
      | none => none
    | _ => none
  | _, _ => none
def opMapUpdate (kind : TypeDesc) (m k v : V) (σ : Store) : Option Store :=
  match asKey kind k, m with
  | some k, .mp id => match σ[id]? with
    | some (.map es clock) => match findEnt k es 0 with
      | some (some (i, e)) => some (σ.set id (.map (es.set i { e with key := k, val := v }) clock))
      | some none => some (σ.set id (.map (es ++ [{ key := k, val := v, born := clock }]) (clock + 1)))
      | none => none
    | _ => none
  | _, _ => none
def opMapEntry (kind : TypeDesc) (zero : Tree) (m k : V) (σ : Store) : Option (V × Store) :=
  match asKey kind k, m with
  | some k, .mp id => match σ[id]? with
    | some (.map es clock) => match findEnt k es 0 with
      | some (some (i, e)) => some (mkTup [e.val, int .i64 e.born], σ.set id (.map (es.set i { e with key := k }) clock))
      | some none => some (mkTup [.tr zero, int .i64 clock], σ.set id (.map (es ++ [{ key := k, val := .tr zero, born := clock }]) (clock + 1)))
      | none => none
    | _ => none
  | _, _ => none
def setBorn (born : Nat) (v : V) : List Ent → Option (List Ent)
  | [] => none
  | e :: es => if Nat.beq e.born born then some ({ e with val := v } :: es) else match setBorn born v es with
    | some es => some (e :: es)
    | none => none
def opEntryStore (m s v : V) (σ : Store) : Option Store :=
  match m, asIdx? s with
  | .mp id, some born => match σ[id]? with
    | some (.map es clock) => match setBorn born v es with
      | some es => some (σ.set id (.map es clock))
      | none => none
    | _ => none
  | _, _ => none
def opDelete (kind : TypeDesc) (m k : V) (σ : Store) : Option (V × Store) :=
  match asKey kind k, m with
  | some k, .mp id => match σ[id]? with
    | some (.map es clock) => match findEnt k es 0 with
      | some (some (i, _)) => some (.tr (.tup []), σ.set id (.map (es.eraseIdx i) clock))
      | some none => some (.tr (.tup []), σ)
      | none => none
    | _ => none
  | some _, .tr (.sc (.map none)) => some (.tr (.tup []), σ)
  | _, _ => none
end Go.Proofs.Ytodgdmhifbnofaa.AM
end
section
set_option linter.unusedSimpArgs false
set_option linter.unusedVariables false
set_option linter.unusedVariables false
set_option linter.unusedSimpArgs false
namespace Go.Proofs.Ytodgdmhifbnofaa.AM
inductive HO where
  | loc (k : Nat)
  | env (k : Nat)
  | val (v : V)
  deriving Inhabited
inductive HK where
  | mv (x : HO)
  | pick (c a b : HO)
  | alloc (zero : List Tree)
  | box (t : Bool) (x : HO)
  | build (zero : List Tree) (parts : List (Nat × Nat × HO))
  | bslice (own : Bool) (len size : Nat) (zero : List Tree) (parts : List (Nat × Nat × HO))
  | load (size : Nat) (agg : Bool) (a : HO)
  | ldt (size : Nat) (agg : Bool) (a : HO)
  | store (size : Nat) (a x : HO)
  | nilchk (x : HO)
  | bin (ek : EK) (op : BinOp) (x y : HO)
  | eqs (neg : Bool) (offs : List (Nat × Nat)) (x y : HO)
  | un (op : UnOp) (x : HO)
  | conv (c : Conv) (x : HO)
  | mkfn (fn : Fn) (first captured : List HO)
  | mkmap
  | mkslice (zero : List Tree) (bytes : Nat) (l c : HO)
  | faddr (off : Nat) (x : HO)
  | field (off size : Nat) (agg : Bool) (x : HO)
  | iaddr (size : Nat) (x i : HO)
  | istr (x i : HO)
  | lookup (kind : TypeDesc) (zero : Tree) (ok : Bool) (m k : HO)
  | mupd (kind : TypeDesc) (m k v : HO)
  | ment (kind : TypeDesc) (zero : Tree) (m k : HO)
  | esto (m s v : HO)
  | delete (kind : TypeDesc) (m k : HO)
  | extract (x : HO) (i : Nat)
  | mkiface (t : TypeId) (x : HO)
  | callf (f : FuncId) (args : List HO)
  | callv (f : HO) (args : List HO)
  | len (k : Nat) (x : HO)
  | cap (x : HO)
  | append (size bytes : Nat) (s x : HO)
  | qappend (size bytes : Nat) (s x : HO)
  | copy (size : Nat) (d x : HO)
  | clear (zero : List Tree) (x : HO)
  | minmax (mx : Bool) (x : HO) (l : List HO)
  | slicestr (x : HO) (lo hi : Option HO)
  | slice (size : Nat) (x : HO) (lo hi mx : Option HO)
  | bad
  deriving Inhabited
structure HOp where
  dst : Option Nat
  inK : Bool
  k : HK
  guard : Option (HO × Bool)
  deriving Inhabited
inductive HCode where
  | skip
  | region (ops : List HOp) (dr : Option (List (Nat × List Nat)))
  | seq (a b : HCode)
  | cond (c : HO) (a b : HCode)
  | block (id : Nat) (b : HCode)
  | loop (b : HCode)
  | exit (id : Nat)
  | ret
  | bad
  deriving Inhabited
structure St where
  env : List (Nat × V)
  loc : List (Nat × V)
  σ : Store
inductive Out where
  | normal
  | exit (id : Nat)
  | ret
def look : List (Nat × V) → Nat → Option V
  | [], _ => none
  | (k', v) :: r, k => if Nat.beq k k' then some v else look r k
def put : List (Nat × V) → Nat → V → List (Nat × V)
  | [], k, v => [(k, v)]
  | (k', u) :: r, k, v => if Nat.beq k k' then (k', v) :: r else (k', u) :: put r k v
def St.get (st : St) : HO → Option V
  | .loc k => look st.loc k
  | .env k => look st.env k
  | .val v => some v
def St.gets (st : St) : List HO → Option (List V)
  | [] => some []
  | x :: r => match st.get x with
    | some v => match st.gets r with
      | some vs => some (v :: vs)
      | none => none
    | none => none
def St.getp (st : St) : List (Nat × Nat × HO) → Option (List (Nat × Nat × V))
  | [] => some []
  | (o, s, x) :: r => match st.get x with
    | some v => match st.getp r with
      | some vs => some ((o, s, v) :: vs)
      | none => none
    | none => none
def St.geto (st : St) : Option HO → Option (Option V)
  | none => some none
  | some x => match st.get x with
    | some v => some (some v)
    | none => none
def undefV : V := .tr (.tup [])
def St.set (st : St) (dst : Option Nat) (inK : Bool) (v : V) : St :=
  match dst with
  | none => st
  | some d => if inK then { st with env := put st.env d v } else { st with loc := (d, v) :: st.loc }
abbrev CallA := FuncId → List V → Store → Option (V × Store)
def minmaxAll (mx : Bool) : V → List V → Option V
  | v, [] => some v
  | v, u :: r => match opMinMax mx v u with
    | some w => minmaxAll mx w r
    | none => none
def bind1 {β : Type} (x : Option V) (f : V → Option β) : Option β := match x with | some v => f v | none => none
def pure1 (σ : Store) (x : Option V) : Option (V × Store) := match x with | some v => some (v, σ) | none => none
def skip1 (x : Option Store) : Option (V × Store) := match x with | some σ => some (undefV, σ) | none => none
def callV (call : CallA) (f : V) (args : List V) (σ : Store) : Option (V × Store) :=
  match f with
  | .fn (.func f) first captured => call f (first ++ args ++ captured) σ
  | .tr (.fn (.func f) first captured) => call f (first.map .tr ++ args ++ captured.map .tr) σ
  | _ => none
def o_mv (x : HO) (st : St) : Option (V × Store) := pure1 st.σ (st.get x)
def o_pick (c : HO) (a : HO) (b : HO) (st : St) : Option (V × Store) := bind1 (st.get c) fun c => match asBool? c with
    | some true => pure1 st.σ (st.get a)
    | some false => pure1 st.σ (st.get b)
    | none => none
def o_alloc (z : List Tree) (st : St) : Option (V × Store) := opAlloc z st.σ
def o_box (t : Bool) (x : HO) (st : St) : Option (V × Store) := bind1 (st.get x) fun x => opBoxB t x st.σ
def o_build (z : List Tree) (ps : List (Nat × Nat × HO)) (st : St) : Option (V × Store) := match st.getp ps with | some ps => pure1 st.σ (opBuild z ps) | none => none
def o_bslice (own : Bool) (len : Nat) (size : Nat) (z : List Tree) (ps : List (Nat × Nat × HO)) (st : St) : Option (V × Store) := match st.getp ps with | some ps => opBslice own len size z ps st.σ | none => none
def o_load (size : Nat) (agg : Bool) (a : HO) (st : St) : Option (V × Store) := bind1 (st.get a) fun a => pure1 st.σ (opLoad size agg a st.σ)
def o_ldt (size : Nat) (agg : Bool) (a : HO) (st : St) : Option (V × Store) := bind1 (st.get a) fun a => pure1 st.σ (opLdt size agg a)
def o_store (size : Nat) (a : HO) (x : HO) (st : St) : Option (V × Store) := bind1 (st.get a) fun a => bind1 (st.get x) fun x => skip1 (opStore size a x st.σ)
def o_nilchk (x : HO) (st : St) : Option (V × Store) := bind1 (st.get x) fun x => pure1 st.σ (opNilCheck x)
def o_bin (ek : EK) (op : BinOp) (x : HO) (y : HO) (st : St) : Option (V × Store) := bind1 (st.get x) fun x => bind1 (st.get y) fun y => pure1 st.σ (opBin ek op x y)
def o_eqs (neg : Bool) (offs : List (Nat × Nat)) (x : HO) (y : HO) (st : St) : Option (V × Store) := bind1 (st.get x) fun x => bind1 (st.get y) fun y => pure1 st.σ (opEqs neg offs x y)
def o_un (op : UnOp) (x : HO) (st : St) : Option (V × Store) := bind1 (st.get x) fun x => pure1 st.σ (opUn op x)
def o_conv (c : Conv) (x : HO) (st : St) : Option (V × Store) := bind1 (st.get x) fun x => opConv c x st.σ
def o_mkfn (fn : Fn) (first : List HO) (captured : List HO) (st : St) : Option (V × Store) := match st.gets first, st.gets captured with
    | some a, some b => match allTr a, allTr b with
      | some a, some b => some (.tr (.fn fn a b), st.σ)
      | _, _ => some (.fn fn a b, st.σ)
    | _, _ => none
def o_mkmap  (st : St) : Option (V × Store) := opMkmap st.σ
def o_mkslice (z : List Tree) (bytes : Nat) (l : HO) (c : HO) (st : St) : Option (V × Store) := bind1 (st.get l) fun l => bind1 (st.get c) fun c => opMkslice z bytes l c st.σ
def o_faddr (off : Nat) (x : HO) (st : St) : Option (V × Store) := bind1 (st.get x) fun x => pure1 st.σ (opFaddr off x)
def o_field (off : Nat) (size : Nat) (agg : Bool) (x : HO) (st : St) : Option (V × Store) := bind1 (st.get x) fun x => pure1 st.σ (opField off size agg x)
def o_iaddr (size : Nat) (x : HO) (i : HO) (st : St) : Option (V × Store) := bind1 (st.get x) fun x => bind1 (st.get i) fun i => pure1 st.σ (opIaddr size x i st.σ)
def o_istr (x : HO) (i : HO) (st : St) : Option (V × Store) := bind1 (st.get x) fun x => bind1 (st.get i) fun i => pure1 st.σ (opIndexStr x i)
def o_lookup (kind : TypeDesc) (z : Tree) (ok : Bool) (m : HO) (k : HO) (st : St) : Option (V × Store) := bind1 (st.get m) fun m => bind1 (st.get k) fun k => pure1 st.σ (opLookup kind z ok m k st.σ)
def o_mupd (kind : TypeDesc) (m : HO) (k : HO) (v : HO) (st : St) : Option (V × Store) := bind1 (st.get m) fun m => bind1 (st.get k) fun k => bind1 (st.get v) fun v => skip1 (opMapUpdate kind m k v st.σ)
def o_ment (kind : TypeDesc) (z : Tree) (m : HO) (k : HO) (st : St) : Option (V × Store) := bind1 (st.get m) fun m => bind1 (st.get k) fun k => opMapEntry kind z m k st.σ
def o_esto (m : HO) (s : HO) (v : HO) (st : St) : Option (V × Store) := bind1 (st.get m) fun m => bind1 (st.get s) fun s => bind1 (st.get v) fun v => skip1 (opEntryStore m s v st.σ)
def o_delete (kind : TypeDesc) (m : HO) (k : HO) (st : St) : Option (V × Store) := bind1 (st.get m) fun m => bind1 (st.get k) fun k => opDelete kind m k st.σ
def o_extract (x : HO) (i : Nat) (st : St) : Option (V × Store) := bind1 (st.get x) fun x => pure1 st.σ (opExtract x i)
def o_mkiface (t : TypeId) (x : HO) (st : St) : Option (V × Store) := bind1 (st.get x) fun x => match x with
    | .tr x => some (.tr (.iface t x), st.σ)
    | x => some (.iface t x, st.σ)
def o_callf (call : CallA) (f : FuncId) (args : List HO) (st : St) : Option (V × Store) := match st.gets args with | some vs => call f vs st.σ | none => none
def o_callv (call : CallA) (f : HO) (args : List HO) (st : St) : Option (V × Store) := bind1 (st.get f) fun f => match st.gets args with | some vs => callV call f vs st.σ | none => none
def o_len (k : Nat) (x : HO) (st : St) : Option (V × Store) := bind1 (st.get x) fun x => pure1 st.σ (opLen k x st.σ)
def o_cap (x : HO) (st : St) : Option (V × Store) := bind1 (st.get x) fun x => pure1 st.σ (opCap st.σ x)
def o_append (size : Nat) (bytes : Nat) (s : HO) (x : HO) (st : St) : Option (V × Store) := bind1 (st.get s) fun s => bind1 (st.get x) fun x => opAppend size bytes s x st.σ
def o_qappend (size : Nat) (bytes : Nat) (s : HO) (x : HO) (st : St) : Option (V × Store) := bind1 (st.get s) fun s => match s with
    | .tr t => bind1 (st.get x) fun x => opAppend size bytes (.tr t) x st.σ
    | _ => none
def o_copy (size : Nat) (d : HO) (x : HO) (st : St) : Option (V × Store) := bind1 (st.get d) fun d => bind1 (st.get x) fun x => opCopy size d x st.σ
def o_clear (z : List Tree) (x : HO) (st : St) : Option (V × Store) := bind1 (st.get x) fun x => opClear z x st.σ
def o_minmax (mx : Bool) (x : HO) (l : List HO) (st : St) : Option (V × Store) := bind1 (st.get x) fun x => match st.gets l with | some vs => pure1 st.σ (minmaxAll mx x vs) | none => none
def o_slicestr (x : HO) (lo : Option HO) (hi : Option HO) (st : St) : Option (V × Store) := bind1 (st.get x) fun x => match st.geto lo, st.geto hi with
    | some lo, some hi => pure1 st.σ (opSliceStr x lo hi)
    | _, _ => none
def o_slice (size : Nat) (x : HO) (lo : Option HO) (hi : Option HO) (mx : Option HO) (st : St) : Option (V × Store) := bind1 (st.get x) fun x => match st.geto lo, st.geto hi, st.geto mx with
    | some lo, some hi, some mx => pure1 st.σ (opSlice size x lo hi mx st.σ)
    | _, _, _ => none
def opA (call : CallA) (k : HK) (st : St) : Option (V × Store) :=
  match k with
  | .mv x => o_mv x st
  | .pick c a b => o_pick c a b st
  | .alloc z => o_alloc z st
  | .box t x => o_box t x st
  | .build z ps => o_build z ps st
  | .bslice own len size z ps => o_bslice own len size z ps st
  | .load size agg a => o_load size agg a st
  | .ldt size agg a => o_ldt size agg a st
  | .store size a x => o_store size a x st
  | .nilchk x => o_nilchk x st
  | .bin ek op x y => o_bin ek op x y st
  | .eqs neg offs x y => o_eqs neg offs x y st
  | .un op x => o_un op x st
  | .conv c x => o_conv c x st
  | .mkfn fn first captured => o_mkfn fn first captured st
  | .mkmap => o_mkmap st
  | .mkslice z bytes l c => o_mkslice z bytes l c st
  | .faddr off x => o_faddr off x st
  | .field off size agg x => o_field off size agg x st
  | .iaddr size x i => o_iaddr size x i st
  | .istr x i => o_istr x i st
  | .lookup kind z ok m k => o_lookup kind z ok m k st
  | .mupd kind m k v => o_mupd kind m k v st
  | .ment kind z m k => o_ment kind z m k st
  | .esto m s v => o_esto m s v st
  | .delete kind m k => o_delete kind m k st
  | .extract x i => o_extract x i st
  | .mkiface t x => o_mkiface t x st
  | .callf f args => o_callf call f args st
  | .callv f args => o_callv call f args st
  | .len k x => o_len k x st
  | .cap x => o_cap x st
  | .append size bytes s x => o_append size bytes s x st
  | .qappend size bytes s x => o_qappend size bytes s x st
  | .copy size d x => o_copy size d x st
  | .clear z x => o_clear z x st
  | .minmax mx x l => o_minmax mx x l st
  | .slicestr x lo hi => o_slicestr x lo hi st
  | .slice size x lo hi mx => o_slice size x lo hi mx st
  | .bad => none
def guardA (st : St) : Option (HO × Bool) → Option Bool
  | none => some true
  | some (x, want) => match st.get x with
    | some (.tr (.sc (.bool b))) => some (b == want)
    | some (.tr (.tup [])) => some false
    | _ => none
def opStep (call : CallA) (o : HOp) (st : St) : Option St :=
  match guardA st o.guard with
  | some true => match opA call o.k st with
    | some (v, σ) => some ({ st with σ := σ }.set o.dst o.inK v)
    | none => none
  | some false => some (st.set o.dst o.inK undefV)
  | none => none
def opsRun (call : CallA) : List HOp → St → Option St
  | [], st => some st
  | o :: r, st => match opStep call o st with
    | some st => opsRun call r st
    | none => none
def onlyL (e : List (Nat × V)) : List Nat → List (Nat × V)
  | [] => []
  | t :: r => match look e t with
    | some v => (t, v) :: onlyL e r
    | none => onlyL e r
def St.only (st : St) (ns : List Nat) : St := { env := onlyL st.env ns, loc := onlyL st.loc ns, σ := st.σ }
def freeK : HK → Bool
  | .mv _ | .pick _ _ _ | .build _ _ | .nilchk _ | .bin _ _ _ _ | .eqs _ _ _ _ | .un _ _ | .mkfn _ _ _ | .faddr _ _ | .ldt _ _ _ | .field _ _ _ _ | .istr _ _ | .extract _ _ | .mkiface _ _
  | .minmax _ _ _ | .slicestr _ _ _ => true
  | .conv (.toInt _) _ | .conv (.toFloat _) _ | .conv .strStr _ => true
  | .len k _ => Nat.ble k 1
  | .bslice own _ _ _ _ => !own
  | _ => false
def readK : HK → Bool
  | .load _ _ _ | .iaddr _ _ _ | .lookup _ _ _ _ _ | .len _ _ | .cap _ | .slice _ _ _ _ _ => true
  | _ => false
def quietK : HK → Bool
  | .alloc _ | .box _ _ | .bslice _ _ _ _ _ | .load _ _ _ | .mkslice _ _ _ _ | .iaddr _ _ _ | .lookup _ _ _ _ _ | .callf _ _ | .callv _ _ | .len _ _ | .cap _ | .slice _ _ _ _ _ | .mkmap | .conv _ _ | .qappend _ _ _ _ => true
  | _ => false
end Go.Proofs.Ytodgdmhifbnofaa.AM
end
section
set_option linter.unusedSimpArgs false
set_option linter.unusedVariables false
set_option linter.unusedVariables false
set_option linter.unusedSimpArgs false
namespace Go.Proofs.Ytodgdmhifbnofaa.AM
mutual
def noRows : Tree → Bool
  | .sc _ => true
  | .agg cs => noRowsL cs
  | .tup cs => noRowsL cs
  | .row cs _ _ => cs.isEmpty
  | .rptr _ _ => false
  | .fn _ a b => noRowsL a && noRowsL b
  | .iface _ v => noRows v
def noRowsL : List Tree → Bool
  | [] => true
  | t :: ts => noRows t && noRowsL ts
end
def snapL (f : V → Option Tree) : List V → Option (List Tree)
  | [] => some []
  | v :: vs => match f v with
    | some t => match snapL f vs with
      | some ts => some (t :: ts)
      | none => none
    | none => none
def snap (σ : Store) : Nat → V → Option Tree
  | _, .tr t => some t
  | 0, _ => none
  | n + 1, .agg cs => match snapL (snap σ n) cs with | some ts => some (.agg ts) | none => none
  | n + 1, .tup cs => match snapL (snap σ n) cs with | some ts => some (.tup ts) | none => none
  | n + 1, .own id g off len sz cap => match obCells σ id g with
    | some cs => match slice? cs off (len * sz) with
      | some cs => match snapL (snap σ n) cs with | some ts => some (.row ts len cap) | none => none
      | none => none
    | none => none
  | n + 1, .ptr id g off => match obCells σ id g with
    | some cs => match snapL (snap σ n) cs with | some ts => some (.rptr ts off) | none => none
    | none => none
  | n + 1, .fn f a b => match snapL (snap σ n) a, snapL (snap σ n) b with
    | some a, some b => some (.fn f a b)
    | _, _ => none
  | n + 1, .iface t v => match snap σ n v with | some v => some (.iface t v) | none => none
  | _ + 1, .mp _ => none
def snapF (σ : Store) : Nat → V → Option Tree
  | _, .tr t => if noRows t then some t else none
  | 0, _ => none
  | n + 1, .agg cs => match snapL (snapF σ n) cs with | some ts => some (.agg ts) | none => none
  | n + 1, .tup cs => match snapL (snapF σ n) cs with | some ts => some (.tup ts) | none => none
  | n + 1, .own id g off len sz cap => match obCells σ id g with
    | some cs => match slice? cs off (len * sz) with
      | some cs => match snapL (snapF σ n) cs with | some ts => some (.row ts len cap) | none => none
      | none => none
    | none => none
  | n + 1, .ptr id g off => match obCells σ id g with
    | some cs => match snapL (snapF σ n) cs with | some ts => some (.rptr ts off) | none => none
    | none => none
  | n + 1, .fn f a b => match snapL (snapF σ n) a, snapL (snapF σ n) b with
    | some a, some b => some (.fn f a b)
    | _, _ => none
  | n + 1, .iface t v => match snapF σ n v with | some v => some (.iface t v) | none => none
  | _ + 1, .mp _ => none
def dirs : V → List Nat
  | .tr _ => []
  | .agg cs => dirsL cs
  | .tup cs => dirsL cs
  | .own id _ _ _ _ _ => [id]
  | .ptr id _ _ => [id]
  | .fn _ a b => dirsL a ++ dirsL b
  | .mp id => [id]
  | .iface _ v => dirs v
where
  dirsL : List V → List Nat
  | [] => []
  | v :: vs => dirs v ++ dirsL vs
def obVs (σ : Store) (id : Nat) : List V :=
  match σ[id]? with
  | some (.row cs _) => cs
  | _ => []
def memN (k : Nat) : List Nat → Bool
  | [] => false
  | a :: r => Nat.beq a k || memN k r
def reachN (σ : Store) : Nat → List Nat → List Nat → List Nat
  | 0, _, seen => seen
  | _ + 1, [], seen => seen
  | n + 1, i :: todo, seen => if memN i seen then reachN σ n todo seen else reachN σ n (dirs.dirsL (obVs σ i) ++ todo) (i :: seen)
def closedB (σ : Store) (S : List Nat) : Bool := S.all fun i => (dirs.dirsL (obVs σ i)).all fun j => memN j S
def deepN : Nat := 400
def freeze (σ0 : Store) : List Nat → Store → Option Store
  | [], σ => some σ
  | id :: r, σ => match σ0[id]? with
    | some (.row cs g) => match snapL (snap σ0 deepN) cs with
      | some ts => freeze σ0 r (σ.set id (.fro ts g))
      | none => none
    | some (.fro _ _) => freeze σ0 r σ
    | _ => none
def freezeAll (σ : Store) (args : List V) : Option Store :=
  let ds := dirs.dirsL args
  let S := reachN σ 10000 ds []
  if closedB σ S && ds.all (fun j => memN j S) then freeze σ S σ else none
inductive Mode where
  | iso
  | shared
  | ext (k : Nat)
  deriving DecidableEq, Inhabited
inductive HRes where
  | tmp (x : Nat)
  | cell (x : Nat) (size : Nat) (agg : Bool)
  deriving Inhabited
inductive HD where
  | here (ops : List HOp) (f : HO) (args : List HO) (dst : Option Nat) (inK : Bool) (ops2 : List HOp) (post : HCode)
  | after (c : HCode) (d : HD)
  deriving Inhabited
structure HFn where
  nargs : Nat
  code : HCode
  results : List HRes
  mode : Mode
  dfr : Option HD := none
  deriving Inhabited
def fnV : V → Option (FuncId × List V × List V)
  | .fn (.func g) first cap => some (g, first, cap)
  | .tr (.fn (.func g) first cap) => some (g, first.map .tr, cap.map .tr)
  | _ => none
abbrev FTab := FuncId → Option HFn
def resultsA (st : St) : List HRes → Option (List V)
  | [] => some []
  | .tmp x :: r => match look st.env x with
    | some v => match resultsA st r with
      | some vs => some (v :: vs)
      | none => none
    | none => none
  | .cell x size agg :: r => match look st.env x with
    | some a => match opLoad size agg a st.σ with
      | some v => match resultsA st r with
        | some vs => some (v :: vs)
        | none => none
      | none => none
    | none => none
def resultA (st : St) (rs : List HRes) : Option V :=
  match resultsA st rs with
  | some [v] => some v
  | some vs => some (mkTup vs)
  | none => none
def argsEnv : List V → Nat → List (Nat × V)
  | [], _ => []
  | v :: vs, i => (i, v) :: argsEnv vs (i + 1)
def hasPre : List UInt8 → List UInt8 → Bool
  | [], _ => true
  | a :: x, b :: y => Nat.beq a.toNat b.toNat && hasPre x y
  | _ :: _, [] => false
def hasL (sub : List UInt8) : List UInt8 → Bool
  | [] => match sub with | [] => true | _ :: _ => false
  | b :: l => hasPre sub (b :: l) || hasL sub l
def lastL (c : Int) : List UInt8 → Nat → Int → Int
  | [], _, r => r
  | b :: l, i, r => lastL c l (i + 1) (if (b.toNat : Int) = c then (i : Int) else r)
def findL (sub : List UInt8) : List UInt8 → Nat → Option Nat
  | [], i => match sub with | [] => some i | _ :: _ => none
  | b :: l, i => if hasPre sub (b :: l) then some i else findL sub l (i + 1)
def cutL (s t : List UInt8) : Value := match findL t s 0 with
  | some i => .tuple #[.string ⟨⟨s.take i⟩⟩, .string ⟨⟨s.drop (i + t.length)⟩⟩, .bool true]
  | none => .tuple #[.string ⟨⟨s⟩⟩, .string ⟨⟨[]⟩⟩, .bool false]
def scsOf : List V → Option (List Value)
  | [] => some []
  | .tr (.sc x) :: r => match scsOf r with | some l => some (x :: l) | none => none
  | _ :: _ => none
def countL (c : Nat) : List UInt8 → Nat → Int
  | [], n => (n : Int)
  | b :: l, n => countL c l (if Nat.beq b.toNat c then n + 1 else n)
def rdArgs (σ : Store) : List V → Option (List Value)
  | [] => some []
  | v :: r => match rdArgs σ r with
    | none => none
    | some l => match v with
      | .tr (.sc (.slice none _ _)) => some (.string ⟨⟨[]⟩⟩ :: l)
      | .tr (.sc x) => some (x :: l)
      | v => match elems σ 1 v with
        | some (cs, _) => match bytesOf? cs with
          | some b => some (.string ⟨⟨b⟩⟩ :: l)
          | none => none
        | none => none
def rdB (σ : Store) : List V → Option (List Value)
  | [] => some []
  | v :: r => match rdB σ r with
    | none => none
    | some l => match v with
      | .tr (.sc (.slice none 0 0)) => some (.string ⟨⟨[]⟩⟩ :: l)
      | .tr (.sc (.int k n)) => some (.int k n :: l)
      | .tr (.sc _) => none
      | v => match elems σ 1 v with
        | some (cs, _) => match bytesOf? cs with
          | some b => some (.string ⟨⟨b⟩⟩ :: l)
          | none => none
        | none => none
def argsOf (k : Nat) (vs : List V) (σ : Store) : Option (List Value) := match Nat.blt k 5 with | true => scsOf vs | false => match Nat.blt k 11 with | true => rdArgs σ vs | false => match Nat.blt k 16 with | true => rdB σ vs | false => scsOf vs
def idxL (t : List UInt8) : List UInt8 → Nat → Int
  | [], i => if t.isEmpty then (i : Int) else -1
  | b :: l, i => if t.isPrefixOf (b :: l) then (i : Int) else idxL t l (i + 1)
def byteL (c : UInt8) : List UInt8 → Nat → Int
  | [], _ => -1
  | b :: l, i => if b == c then (i : Int) else byteL c l (i + 1)
def decL : List UInt8 → Nat × Nat
  | [] => (65533, 0)
  | b :: l => Lib.decodeN (l.length + 1) b.toNat (l.getD 0 0).toNat (l.getD 1 0).toNat (l.getD 2 0).toNat
def extS (k : Nat) (xs : List Value) : Option Value := match k with
  | 0 => match xs with
    | [.string s, .string t] => if Nat.blt s.data.toList.length 4294967281 then some (.bool (hasL t.data.toList s.data.toList)) else none
    | _ => none
  | 1 => match xs with
    | [.int .i64 (.ofNat n)] => if Nat.blt n 10 then some (.string ⟨⟨[UInt8.ofNat (48 + n)]⟩⟩) else if Nat.blt n 100 then some (.string ⟨⟨[UInt8.ofNat (48 + n / 10), UInt8.ofNat (48 + n % 10)]⟩⟩) else none
    | _ => none
  | 2 => match xs with
    | [.string s, .int .u8 c] => if Nat.blt s.data.toList.length 4611686018427387904 then some (.int .i64 (lastL c s.data.toList 0 (-1))) else none
    | _ => none
  | 4 => match xs with
    | [.string s, .string t] => some (.int .i64 (if bytesLt s.data.toList t.data.toList then -1 else if bytesEq s.data.toList t.data.toList then 0 else 1))
    | _ => none
  | 5 => match xs with
    | [.string s, .int .u8 (.ofNat c)] => if Nat.blt c 256 then some (.int .i64 (countL c s.data.toList 0)) else none
    | _ => none
  | 6 => match xs with
    | [.float .f64 b] => some (.int .u64 (b : Int))
    | _ => none
  | 7 => match xs with
    | [.int .u64 (.ofNat n)] => some (.float .f64 n)
    | _ => none
  | 3 => match xs with
    | [.string s, .string t] => if Nat.blt s.data.toList.length 4294967281 then some (cutL s.data.toList t.data.toList) else none
    | _ => none
  | 11 => match xs with
    | [.string s, .string t] => if Nat.blt s.data.toList.length 4294967281 && Nat.blt t.data.toList.length 4294967281 then some (.int .i64 (idxL t.data.toList s.data.toList 0)) else none
    | _ => none
  | 12 => match xs with
    | [.string s, .int .u8 (.ofNat c)] => if Nat.blt c 256 then some (.int .i64 (byteL (UInt8.ofNat c) s.data.toList 0)) else none
    | _ => none
  | 13 => match xs with
    | [.int .u64 (.ofNat n), .int .i64 (.ofNat b)] => if Nat.beq b 10 && Nat.beq n 18446744073709551615 then some (.string ⟨⟨[49, 56, 52, 52, 54, 55, 52, 52, 48, 55, 51, 55, 48, 57, 53, 53, 49, 54, 49, 53]⟩⟩) else none
    | _ => none
  | 15 => match xs with
    | [.string s] => if Nat.blt 0 s.data.toList.length && Nat.blt s.data.toList.length 4294967281 then some (.tuple #[.int .i32 ((decL s.data.toList).1 : Int), .int .i64 ((decL s.data.toList).2 : Int)]) else none
    | _ => none
  | 16 => match xs with
    | [.string s, .string c] => match c.data.toList with
      | [x] => if Nat.blt x.toNat 128 then some (.string ⟨⟨s.data.toList.dropWhile (fun b => b == x)⟩⟩) else none
      | _ => none
    | _ => none
  | 17 => match xs with
    | [.string s, .string c, .string n] => match c.data.toList, n.data.toList with
      | [x], [] => if Nat.blt s.data.toList.length 1000000 then some (.string ⟨⟨s.data.toList.filter (fun b => !(b == x))⟩⟩) else none
      | _, _ => none
    | _ => none
  | 18 => match xs with
    | [] => some (.bool true)
    | _ => none
  | _ => none
def extR : Value → V
  | .tuple vs => .tr (.tup (vs.toList.map .sc))
  | v => .tr (.sc v)
def extV (k : Nat) (vs : List V) (σ : Store) : Option V := match argsOf k vs σ with
  | some xs => match extS k xs with
    | some r => some (extR r)
    | none => none
  | none => none
def insI (x : Int) : List Int → List Int
  | [] => [x]
  | y :: l => match decide (x ≤ y) with | true => x :: y :: l | false => y :: insI x l
def sortI : List Int → List Int
  | [] => []
  | x :: l => insI x (sortI l)
def bytesLe (x y : List UInt8) : Bool := !bytesLt y x
def insS (x : List UInt8) : List (List UInt8) → List (List UInt8)
  | [] => [x]
  | y :: l => match bytesLe x y with | true => x :: y :: l | false => y :: insS x l
def sortS : List (List UInt8) → List (List UInt8)
  | [] => []
  | x :: l => insS x (sortS l)
def intsOf : List V → Option (List Int)
  | [] => some []
  | .tr (.sc (.int .i64 n)) :: r => match intsOf r with | some l => some (n :: l) | none => none
  | _ :: _ => none
def strsOf : List V → Option (List (List UInt8))
  | [] => some []
  | .tr (.sc (.string s)) :: r => match strsOf r with | some l => some (s.data.toList :: l) | none => none
  | _ :: _ => none
def sortCells (k : Nat) (r : List V) : Option (List V) := match k with
  | 8 => match intsOf r with | some l => some ((sortI l).map fun n => .tr (.sc (.int .i64 n))) | none => none
  | 9 => match strsOf r with | some l => some ((sortS l).map fun s => .tr (.sc (.string ⟨s.toArray⟩))) | none => none
  | _ => none
def keysOf (clock : Nat) : List Ent → List Nat → Option (List (List UInt8))
  | [], _ => some []
  | e :: es, seen => match e.key with
    | .string s => match Nat.blt e.born clock && !memN e.born seen with
      | true => match keysOf clock es (e.born :: seen) with
        | some l => some (s.data.toList :: l)
        | none => none
      | false => none
    | _ => none
def nmsT (l : List (List UInt8)) : Tree := let r := sortS ([99, 111, 109, 112, 97, 114, 97, 98, 108, 101] :: [101, 114, 114, 111, 114] :: l); .row (r.map fun s => .sc (.string ⟨⟨s⟩⟩)) r.length none
def nmsW (σ : Store) (cell : Option V) : Option (V × Store) := match cell with
  | some (.mp m) => match σ[m]? with
    | some (.map es clock) => match keysOf clock es [] with
      | some l => match Nat.ble l.length 1000 with | true => some (.tr (nmsT l), σ) | false => none
      | none => none
    | _ => none
  | _ => none
def extW (k : Nat) (vs : List V) (σ : Store) : Option (V × Store) := match vs with
  | [.ptr id g off] => match Nat.beq k 14 with
    | true => match obCells σ id g with
      | some cs => nmsW σ cs[off]?
      | none => none
    | false => none
  | [.tr (.sc (.pointer none))] => match Nat.beq k 14 with | true => some (.tr (nmsT []), σ) | false => none
  | [.tr (.sc (.slice none 0 0))] => match Nat.ble 8 k && Nat.ble k 9 with | true => some (.tr (.tup []), σ) | false => none
  | [.own id g off len sz _] => match Nat.beq sz 1 && (Nat.blt 0 len && Nat.ble len 100000) with
    | true => match obCells σ id g with
      | some cs => match slice? cs off len with
        | some r => match sortCells k r with
          | some r' => match obPut σ id g off r' with
            | some σ' => some (.tr (.tup []), σ')
            | none => none
          | none => none
        | none => none
      | none => none
    | false => none
  | [.tr (.sc (.string s))] => match Nat.beq k 10 && (s.data.toList.all (fun b => Nat.blt b.toNat 128) && Nat.ble s.data.toList.length 100000) with
    | true => some (.tr (.row ((Lib.fields s.data.toList).map fun l => .sc (.string ⟨l.toArray⟩)) (Lib.fields s.data.toList).length (some (Lib.fields s.data.toList).length)), σ)
    | false => none
  | _ => none
abbrev Dg := List UInt8 × List UInt8 × Int
def dLt (a b : Dg) : Bool := bytesLt a.1 b.1 || (bytesEq a.1 b.1 && (bytesLt a.2.1 b.2.1 || (bytesEq a.2.1 b.2.1 && decide (a.2.2 < b.2.2))))
def insD (x : Dg) : List Dg → List Dg
  | [] => [x]
  | y :: l => match !dLt y x with | true => x :: y :: l | false => y :: insD x l
def sortD : List Dg → List Dg
  | [] => []
  | x :: l => insD x (sortD l)
def encD (x : Dg) : List Value := [.string ⟨⟨x.1⟩⟩, .string ⟨⟨x.2.1⟩⟩, .int .i64 x.2.2]
def dgsOf : List V → Option (List Dg)
  | [] => some []
  | .tr (.sc (.string a)) :: .tr (.sc (.string b)) :: .tr (.sc (.int .i64 n)) :: r => match dgsOf r with | some l => some ((a.data.toList, b.data.toList, n) :: l) | none => none
  | _ :: _ => none
def extF (k : Nat) (vs : List V) (σ : Store) : Option (V × Store) := match vs with
  | [.own id g off len sz _, .tr (.fn (.func q) [] [])] => match Nat.beq k (40 + q) && (Nat.blt q 60 && (Nat.beq sz 3 && (Nat.blt 0 len && Nat.ble len 100000))) with
    | true => match obCells σ id g with
      | some cs => match slice? cs off (len * 3) with
        | some r => match dgsOf r with
          | some l => match obPut σ id g off (((sortD l).flatMap encD).map fun x => .tr (.sc x)) with
            | some σ' => some (.tr (.tup []), σ')
            | none => none
          | none => none
        | none => none
      | none => none
    | false => none
  | [.tr (.sc (.slice none 0 0)), .tr (.fn (.func q) [] [])] => match Nat.beq k (40 + q) && Nat.blt q 60 with | true => some (.tr (.tup []), σ) | false => none
  | [.tr (.row [] 0 _), .tr (.fn (.func q) [] [])] => match Nat.beq k (40 + q) && Nat.blt q 60 with | true => some (.tr (.tup []), σ) | false => none
  | [.tr (.row cs n _)] => match Nat.beq k 19 && Nat.ble n 140737488355328 with
    | true => match bytesOf? (cs.map .tr) with
      | some l => match Nat.beq l.length n with | true => some (.tr (.row cs n none), σ) | false => none
      | none => none
    | false => none
  | [.tr (.sc (.slice none 0 0))] => match Nat.beq k 19 with | true => some (.tr (.sc (.slice none 0 0)), σ) | false => none
  | _ => none
def extU (k : Nat) (vs : List V) (σ : Store) : Option (V × Store) := match extF k vs σ with
  | some r => some r
  | none => extW k vs σ
def quietCall (call : CallA) : CallA := fun f vs σ =>
  match snapL (snap σ deepN) vs with
  | none => none
  | some ts => match call f (ts.map .tr) [] with
    | none => none
    | some (v, σ1) => match snapF σ1 deepN v with
      | some t => some (.tr t, σ)
      | none => match snap σ1 deepN v with
        | none => none
        | some t => if (dirs.dirsL vs).isEmpty then some (.tr t, σ) else none
def freshOk (σ σ' : Store) : Bool := (dirs.dirsL (obVs σ' σ.length)).all fun j => Nat.blt j σ.length
def opStepD (call : CallA) (c : Nat) (ns : List Nat) (o : HOp) (st : St) : Option St :=
  match guardA (st.only ns) o.guard with
  | some true => match opA (if Nat.beq c 1 then quietCall call else call) o.k (st.only ns) with
    | some (v, σ) => if Nat.beq c 1 && !freshOk st.σ σ then none else some ({ st with σ := σ }.set o.dst o.inK v)
    | none => none
  | some false => some (st.set o.dst o.inK undefV)
  | none => none
def kx : IntKind → Nat
  | .i8 => 0 | .i16 => 1 | .i32 => 2 | .i64 => 3 | .u8 => 4 | .u16 => 5 | .u32 => 6 | .u64 => 7
def eqInt : Int → Int → Bool
  | .ofNat a, .ofNat b => Nat.beq a b
  | .negSucc a, .negSucc b => Nat.beq a b
  | _, _ => false
def eqO : Option Nat → Option Nat → Bool
  | none, none => true
  | some a, some b => Nat.beq a b
  | _, _ => false
def eqS : Value → Value → Bool
  | .int k a, .int k' b => Nat.beq (kx k) (kx k') && eqInt a b
  | .string a, .string b => bytesEq a.data.toList b.data.toList
  | .bool true, .bool true => true
  | .bool false, .bool false => true
  | .slice none n c, .slice none n' c' => Nat.beq n n' && Nat.beq c c'
  | .pointer none, .pointer none => true
  | .map none, .map none => true
  | .nilFunc, .nilFunc => true
  | .nilIface, .nilIface => true
  | _, _ => false
def eqFn : Fn → Fn → Bool
  | .func f, .func g => Nat.beq f g
  | _, _ => false
mutual
def eqT : Tree → Tree → Bool
  | .sc a, .sc b => eqS a b
  | .agg a, .agg b => eqTL a b
  | .tup a, .tup b => eqTL a b
  | .row a n c, .row b m d => Nat.beq n m && eqO c d && eqTL a b
  | .rptr a n, .rptr b m => Nat.beq n m && eqTL a b
  | .fn f a b, .fn g c d => eqFn f g && eqTL a c && eqTL b d
  | .iface t a, .iface u b => Nat.beq t u && eqT a b
  | _, _ => false
def eqTL : List Tree → List Tree → Bool
  | [], [] => true
  | a :: x, b :: y => eqT a b && eqTL x y
  | _, _ => false
end
mutual
def eqV : V → V → Bool
  | .tr a, .tr b => eqT a b
  | .agg a, .agg b => eqVL a b
  | .tup a, .tup b => eqVL a b
  | .own i g o l z c, .own i' g' o' l' z' c' => Nat.beq i i' && Nat.beq g g' && Nat.beq o o' && Nat.beq l l' && Nat.beq z z' && eqO c c'
  | .ptr i g o, .ptr i' g' o' => Nat.beq i i' && Nat.beq g g' && Nat.beq o o'
  | .fn f a b, .fn g c d => eqFn f g && eqVL a c && eqVL b d
  | .mp i, .mp j => Nat.beq i j
  | .iface t a, .iface u b => Nat.beq t u && eqV a b
  | _, _ => false
def eqVL : List V → List V → Bool
  | [], [] => true
  | a :: x, b :: y => eqV a b && eqVL x y
  | _, _ => false
end
structure Pend where
  h : Nat
  k : HK
  st : St
  v : V
def pendOk (call : CallA) (σ : Store) (p : Pend) : Bool := match opA call p.k { p.st with σ := σ } with
  | some (v, _) => eqV v p.v
  | none => false
def pendAll (call : CallA) (e : Nat) (σ : Store) (ps : List Pend) : Bool := ps.all fun p => Nat.blt p.h e || pendOk call σ p
def pendAdd (call : CallA) (c : Nat) (ns : List Nat) (o : HOp) (st : St) (ps : List Pend) : List Pend := match c with
  | h + 3 => match guardA (st.only ns) o.guard with
    | some true => match opA call o.k (st.only ns) with
      | some (v, _) => ⟨h, o.k, st.only ns, v⟩ :: ps
      | none => ps
    | _ => ps
  | _ => ps
def opsRunD (call : CallA) : Nat → List Pend → List (Nat × List Nat) → List HOp → St → Option St
  | i, ps, [], [], st => if pendAll call i st.σ ps then some st else none
  | i, ps, (c, ns) :: is, o :: os, st => if Nat.beq c 2 && !pendAll call i st.σ ps then none else
    match opStepD call c ns o st with
    | some st' => opsRunD call (i + 1) (pendAdd call c ns o st ps) is os st'
    | none => none
  | _, _, _, _, _ => none
def regionRun (call : CallA) (ops : List HOp) (dr : Option (List (Nat × List Nat))) (st : St) : Option St :=
  match dr with
  | none => opsRun call ops { st with loc := [] }
  | some is => opsRunD call 0 [] is ops { st with loc := [] }
mutual
def exec (T : FTab) : Nat → HCode → St → Option (Out × St)
  | 0, _, _ => none
  | n + 1, c, st => match c with
    | .skip => some (.normal, st)
    | .region ops dr => match regionRun (callA T n) ops dr st with
      | some st => some (.normal, st)
      | none => none
    | .seq a b => match exec T n a st with
      | some (.normal, st) => exec T n b st
      | r => r
    | .cond c a b => match st.get c with
      | some v => match asBool? v with
        | some true => exec T n a st
        | some false => exec T n b st
        | none => none
      | none => none
    | .block id b => match exec T n b st with
      | some (.exit id', st) => if id' = id then some (.normal, st) else some (.exit id', st)
      | r => r
    | .loop b => match exec T n b st with
      | some (.normal, st) => exec T n (.loop b) st
      | r => r
    | .exit id => some (.exit id, st)
    | .ret => some (.ret, st)
    | .bad => none
def runA (T : FTab) : Nat → HFn → List V → Store → Option (V × Store)
  | 0, _, _, _ => none
  | n + 1, fn, args, σ => match fn.dfr with
    | none => match exec T n fn.code ⟨argsEnv args 0, [], σ⟩ with
      | some (.normal, st) => match resultA st fn.results with | some v => some (v, st.σ) | none => none
      | some (.ret, st) => match resultA st fn.results with | some v => some (v, st.σ) | none => none
      | _ => none
    | some d => match execD T n d ⟨argsEnv args 0, [], σ⟩ with
      | some (_, _, .exit _, _) => none
      | some (fv, vs, _, st) => match runDf T n fv vs st.σ with
        | some σ2 => match resultA { st with σ := σ2 } fn.results with | some v => some (v, σ2) | none => none
        | none => none
      | none => none
def execD (T : FTab) : Nat → HD → St → Option (V × List V × Out × St)
  | 0, _, _ => none
  | n + 1, d, st => match d with
    | .after c d => match exec T n c st with
      | some (.normal, st) => execD T n d st
      | _ => none
    | .here ops f args dst inK ops2 post => match opsRun (callA T n) ops { st with loc := [] } with
      | none => none
      | some s1 => match s1.get f, s1.gets args with
        | some fv, some vs => match fnV fv with
          | none => none
          | some _ => match opsRun (callA T n) ops2 (s1.set dst inK undefV) with
            | none => none
            | some s2 => match exec T n post s2 with
              | some (o, s3) => some (fv, vs, o, s3)
              | none => none
        | _, _ => none
def runDf (T : FTab) : Nat → V → List V → Store → Option Store
  | 0, _, _, _ => none
  | n + 1, fv, vs, σ => match fnV fv with
    | none => none
    | some (g, first, cap) => match T g with
      | none => none
      | some gn => if gn.nargs = (first ++ vs ++ cap).length then match gn.mode with
        | .ext k => if Nat.beq k (100 + gn.nargs) then some σ else none
        | .shared => match gn.dfr with
          | some _ => none
          | none => match runA T n gn (first ++ vs ++ cap) σ with
            | some (_, σ2) => some σ2
            | none => none
        | .iso => none
        else none
def callA (T : FTab) : Nat → FuncId → List V → Store → Option (V × Store)
  | 0, _, _, _ => none
  | n + 1, f, args, σ => match T f with
    | none => none
    | some fn => if fn.nargs = args.length then match fn.mode with
      | .ext k => match extV k args σ with
        | some v => some (v, σ)
        | none => extU k args σ
      | .shared => runA T n fn args σ
      | .iso => match snapL (snap σ deepN) args with
        | none => none
        | some ts => match runA T n fn (ts.map .tr) [] with
          | none => none
          | some (v, σ1) => match snap σ1 deepN v with
            | none => none
            | some t => if noRows t then some (.tr t, σ) else match freezeAll σ args with
              | some σ => some (.tr t, σ)
              | none => none
      else none
end
end Go.Proofs.Ytodgdmhifbnofaa.AM
end
section
set_option linter.unusedSimpArgs false
set_option linter.unusedVariables false
set_option linter.unusedVariables false
set_option linter.unusedSimpArgs false
namespace Go.Proofs.Ytodgdmhifbnofaa.AM
def ofValue : Value → V
  | .agg cs => .tr (.agg (cs.toList.map .sc))
  | v => .tr (.sc v)
def mem (k : Nat) : List Nat → Bool
  | [] => false
  | a :: r => Nat.beq a k || mem k r
def cHO (K : List Nat) : Operand → HO
  | .tmp k => if mem k K then .env k else .loc k
  | .const v => .val (ofValue v)
  | .global g => .val (.tr (.sc (.pointer (some ⟨g, 0, none⟩))))
  | .func f => .val (.tr (.fn (.func f) [] []))
def isAggD : TypeDesc → Bool
  | .struct _ | .array _ _ => true
  | _ => false
def zeroOf (P : Program) (t : TypeId) : Option (List Tree) :=
  match P.info? t with
  | some i => match i.zero with
    | some z => some (z.cells.toList.map .sc)
    | none => none
  | none => none
def zeroTree (P : Program) (t : TypeId) : Option Tree :=
  match P.info? t with
  | some i => match i.zero with
    | some (.agg cs) => some (.agg (cs.toList.map .sc))
    | some z => some (.sc z)
    | none => none
  | none => none
def sizeOfT (P : Program) (t : TypeId) : Option Nat := (P.info? t).map (·.size)
def bytesOfT (P : Program) (t : TypeId) : Option Nat := (P.info? t).map (·.bytes)
def kindOf : TypeDesc → EK
  | .bool => .bool
  | .slice _ => .slice
  | .pointer _ => .pointer
  | .map _ _ => .map
  | .func _ _ _ => .func
  | _ => .other
def structPlaces (P : Program) (fs : Array Field) : Nat → Option (Nat × Nat) := fun i =>
  match fs[i]? with
  | some f => match sizeOfT P f.type with | some s => some (f.offset, s) | none => none
  | none => none
def rowPlaces (size : Nat) : Nat → Option (Nat × Nat) := fun i => some (i * size, size)
def cParts (K : List Nat) (place : Nat → Option (Nat × Nat)) : List (Nat × Operand) → Option (List (Nat × Nat × HO))
  | [] => some []
  | (i, x) :: r => match place i with
    | some (o, s) => match cParts K place r with
      | some ps => some ((o, s, cHO K x) :: ps)
      | none => none
    | none => none
def cKey : Option TypeDesc → Option TypeDesc
  | some (.int k) => some (.int k)
  | some .string => some .string
  | some .bool => some .bool
  | _ => none
structure Hints where
  own : Nat → Bool := fun _ => false
  qa : Nat → Bool := fun _ => false
  tu : Nat → Bool := fun _ => false
  bt : Nat → Bool := fun _ => false
  ld : Nat → Bool := fun _ => false
  pm : Nat → List Nat := fun _ => []
def Hints.isQ (H : Hints) : Option Nat → Bool
  | some d => H.qa d
  | none => false
def Hints.isB (H : Hints) : Option Nat → Bool
  | some d => H.bt d
  | none => false
def Hints.isL (H : Hints) : Option Nat → Bool
  | some d => H.ld d
  | none => false
def Hints.isT (H : Hints) : Option Nat → Bool
  | some d => H.tu d
  | none => true
def mapO {α β : Type} (f : α → Option β) : List α → Option (List β)
  | [] => some []
  | a :: r => match f a with
    | some b => match mapO f r with
      | some bs => some (b :: bs)
      | none => none
    | none => none
def eqKind : Option TypeDesc → Option Nat
  | some (.int _) => some 0
  | some .string => some 1
  | some .bool => some 2
  | _ => none
def eqField (P : Program) (f : Field) : Option (Nat × Nat) := if f.name != "_" && P.plainKey f.type then (match eqKind (P.underlying f.type) with | some k => some (f.offset, k) | none => none) else none
def eqShape (P : Program) (t : TypeId) : Option (List (Nat × Nat)) := match P.underlying t with
  | some (.struct fs) => if !P.stoodInHeld t && !P.eqGuardType P.depth t then mapO (eqField P) fs.toList else none
  | _ => none
def cOp (P : Program) (H : Hints) (K : List Nat) (o : Oper) : HK :=
  let h := cHO K
  match o.op with
  | .move x | .assign x => .mv (h x)
  | .pick c a b => .pick (h c) (h a) (h b)
  | .alloc t => match zeroOf P t with | some z => .alloc z | none => .bad
  | .box _ x => .box (H.isB o.dst) (h x)
  | .build t ps => match P.underlying t, zeroOf P t with
    | some (.struct fs), some z => if fs.toList.all (fun f => (sizeOfT P f.type).isSome) then match cParts K (structPlaces P fs) ps.toList with | some ps => .build z ps | none => .bad else .bad
    | some (.array _ e), some z => match sizeOfT P e with
      | some s => match cParts K (rowPlaces s) ps.toList with | some ps => .build z ps | none => .bad
      | none => .bad
    | _, _ => .bad
  | .buildSlice t len ps => match P.underlying t with
    | some (.slice e) => match sizeOfT P e, zeroOf P e with
      | some s, some z => if z.length = s ∧ len * s ≤ 2 ^ 24 then match cParts K (rowPlaces s) ps.toList with
          | some ps => .bslice (match o.dst with | some d => H.own d | none => false) len s z ps
          | none => .bad
        else .bad
      | _, _ => .bad
    | _ => .bad
  | .load t a => match P.underlying t, sizeOfT P t with
    | some d, some s => if isAggD d || s = 1 then (if H.isL o.dst then .ldt s (isAggD d) (h a) else .load s (isAggD d) (h a)) else .bad
    | _, _ => .bad
  | .store t a x => match sizeOfT P t with | some s => .store s (h a) (h x) | none => .bad
  | .nilCheck x => .nilchk (h x)
  | .binOp op xt x y _ => match eqShape P xt with
    | some offs => match op with
      | .eql => .eqs false offs (h x) (h y)
      | .neq => .eqs true offs (h x) (h y)
      | _ => .bad
    | none => match P.underlying xt with
      | some d => .bin (kindOf d) op (h x) (h y)
      | none => .bad
  | .unOp op _ x => .un op (h x)
  | .convert s d x => match P.underlying s, P.underlying d with
    | some _, some (.int k) => .conv (.toInt k) (h x)
    | some _, some (.float k) => .conv (.toFloat k) (h x)
    | some .string, some .string => .conv .strStr (h x)
    | some (.slice e), some .string => match P.underlying e with
      | some (.int .u8) => .conv .bytesStr (h x)
      | _ => .bad
    | some .string, some (.slice e) => match P.underlying e with
      | some (.int .u8) => .conv .strBytes (h x)
      | _ => .bad
    | some (.slice _), some (.slice e) => match s == d, P.underlying e with
      | true, some (.int .u8) => .conv .same (h x)
      | _, _ => .bad
    | _, _ => .bad
  | .makeInterface t x => match P.underlying t with
    | some (.interface _) => .bad
    | some _ => .mkiface t (h x)
    | none => .bad
  | .makeFunc fn a b => .mkfn fn (a.toList.map h) (b.toList.map h)
  | .makeMap t none => .mkmap
  | .makeSlice t l c => match P.underlying t with
    | some (.slice e) => match sizeOfT P e, zeroOf P e, bytesOfT P e with
      | some s, some z, some b => if z.length = s then .mkslice z b (h l) (h c) else .bad
      | _, _, _ => .bad
    | _ => .bad
  | .slice t x lo hi mx => match P.underlying t with
    | some .string => match mx with | none => .slicestr (h x) (lo.map h) (hi.map h) | some _ => .bad
    | some (.slice e) => match sizeOfT P e with
      | some s => .slice s (h x) (lo.map h) (hi.map h) (mx.map h)
      | none => .bad
    | _ => .bad
  | .fieldAddr t x f => match P.underlying t with
    | some (.struct fs) => match fs[f]? with
      | some f => match sizeOfT P f.type with
        | some s => if s = 0 then .bad else .faddr f.offset (h x)
        | none => .bad
      | none => .bad
    | _ => .bad
  | .field t x f => match P.underlying t with
    | some (.struct fs) => match fs[f]? with
      | some f => match P.underlying f.type, sizeOfT P f.type with
        | some d, some s => if isAggD d || s = 1 then .field f.offset s (isAggD d) (h x) else .bad
        | _, _ => .bad
      | none => .bad
    | _ => .bad
  | .indexAddr t x i => match P.underlying t with
    | some (.slice e) => match sizeOfT P e with | some s => .iaddr s (h x) (h i) | none => .bad
    | _ => .bad
  | .index t x i => match P.underlying t with
    | some .string => .istr (h x) (h i)
    | _ => .bad
  | .lookup t x i ok => match P.underlying t with
    | some (.map k e) => match cKey (P.underlying k), zeroTree P e with
      | some d, some z => .lookup d z ok (h x) (h i)
      | _, _ => .bad
    | _ => .bad
  | .mapUpdate t m k x | .insert t m k x => match P.underlying t with
    | some (.map kt _) => match cKey (P.underlying kt) with
      | some d => .mupd d (h m) (h k) (h x)
      | none => .bad
    | _ => .bad
  | .mapEntry t m k => match P.underlying t with
    | some (.map kt e) => match cKey (P.underlying kt), zeroTree P e with
      | some d, some z => .ment d z (h m) (h k)
      | _, _ => .bad
    | _ => .bad
  | .entryStore _ m s x => .esto (h m) (h s) (h x)
  | .extract x i => .extract (h x) i
  | .call c => match c.callee with
    | .value (.func f) => .callf f (c.args.toList.map h)
    | .value f => .callv (h f) (c.args.toList.map h)
    | .invoke _ _ => .bad
    | .builtin b => match b, c.args.toList, c.argTypes.toList with
      | .len, [x], [t] => match P.underlying t with
        | some .string => .len 0 (h x)
        | some (.slice _) => .len 1 (h x)
        | some (.map _ _) => .len 2 (h x)
        | _ => .bad
      | .cap, [x], [t] => match P.underlying t with
        | some (.slice _) => .cap (h x)
        | _ => .bad
      | .append, [s, x], [t, u] => match P.underlying t, P.underlying u with
        | some (.slice e), some (.int _) => .bad
        | some (.slice e), some d => match sizeOfT P e, zeroOf P e, bytesOfT P e with
          | some s', some z, some b => if z.length = s' then (if H.isQ o.dst then .qappend s' b (h s) (h x) else .append s' b (h s) (h x)) else .bad
          | _, _, _ => .bad
        | _, _ => .bad
      | .copy, [d, x], t :: _ => match P.underlying t with
        | some (.slice e) => match sizeOfT P e with | some s => .copy s (h d) (h x) | none => .bad
        | _ => .bad
      | .clear, [x], [t] => match P.underlying t with
        | some (.slice e) => match sizeOfT P e, zeroOf P e with
          | some s, some z => if z.length = s then .clear z (h x) else .bad
          | _, _ => .bad
        | _ => .bad
      | .max, x :: l, _ => .minmax true (h x) (l.map h)
      | .min, x :: l, _ => .minmax false (h x) (l.map h)
      | .delete, [m, k], t :: _ => match P.underlying t with
        | some (.map kt _) => match cKey (P.underlying kt) with
          | some d => .delete d (h m) (h k)
          | none => .bad
        | _ => .bad
      | _, _, _ => .bad
  | _ => .bad
def cGuard (K : List Nat) (ops : Array Oper) : Option (Nat × Bool) → Option (HO × Bool)
  | none => none
  | some (j, want) => match (ops[j]?).bind (·.dst) with
    | some d => some (cHO K (.tmp d), want)
    | none => some (.val undefV, want)
def kOf (K : List Nat) : Option Nat → Bool
  | some d => mem d K
  | none => false
def dstOk (N : Nat) : Option Nat → Bool
  | some d => Nat.blt d N
  | none => true
def cOper (P : Program) (H : Hints) (K : List Nat) (N : Nat) (ops : Array Oper) (o : Oper) : HOp :=
  if dstOk N o.dst then { dst := o.dst, inK := kOf K o.dst, k := cOp P H K o, guard := cGuard K ops o.guard }
  else { dst := o.dst, inK := kOf K o.dst, k := .bad, guard := none }
def opSlots (o : Op) : List Nat := o.operands.toList.filterMap fun (x : Operand) => match x with | .tmp t => some t | _ => none
def guardSlots (ops : Array Oper) (o : Oper) : List Nat := match o.guard with | some (j, _) => (match (ops[j]?).bind (·.dst) with | some d => [d] | none => []) | none => []
def bitsOf (acc : List Nat) : List Edge → Nat
  | [] => 0
  | e :: r => if Region.binds .any e then 2 ^ e.on ||| (acc.getD e.on 0 ||| bitsOf acc r) else bitsOf acc r
def ancL : List Oper → List Nat → List Nat
  | [], acc => acc
  | o :: r, acc => ancL r (acc ++ [bitsOf acc o.after.toList])
def ahead (an : List Nat) (i k : Nat) : Bool := Nat.testBit (an.getD i 0) k
def inTurn (an : List Nat) (i k : Nat) : Bool := (Nat.blt k i && ahead an i k) || (Nat.blt i k && ahead an k i)
def drawPair (ops : List Oper) (an : List Nat) (is : List (Nat × List Nat)) (i k : Nat) : Bool :=
  match ops[i]?, ops[k]?, is[i]?, is[k]? with
  | some oi, some ok, some (ci, ni), some (ck, _) =>
    if Nat.beq i k then ni.all fun t => oi.dst != some t else
    (ok.dst.isNone || ok.dst != oi.dst) &&
    (match ok.dst with | some t => !mem t ni || inTurn an i k | none => true) &&
    (!Nat.beq ci 2 || Nat.beq ck 0 || Nat.ble 3 ck || inTurn an i k)
  | _, _, _, _ => false
def floatOk (an : List Nat) (is : List (Nat × List Nat)) (n i h : Nat) : Bool :=
  ((List.range i).all fun b => match is[b]? with | some (c, _) => !Nat.beq c 2 || ahead an i b | none => true) &&
  (Nat.beq h n || (match is[h]? with | some (c, _) => Nat.beq c 2 && ahead an h i | none => false))
def drawOne (P : Program) (H : Hints) (K : List Nat) (N : Nat) (ops : Array Oper) (an : List Nat) (is : List (Nat × List Nat)) (i : Nat) : Bool :=
  match ops[i]?, is[i]? with
  | some o, some (c, _) => o.after.toList.all (fun e => !Region.binds .any e || Nat.blt e.on i) &&
    (match c with | 0 => freeK (cOper P H K N ops o).k | 1 => quietK (cOper P H K N ops o).k | 2 => true | h + 3 => readK (cOper P H K N ops o).k && floatOk an is ops.size i h)
  | _, _ => false
def drawOk (P : Program) (H : Hints) (K : List Nat) (N : Nat) (ops : Array Oper) (an : List Nat) (is : List (Nat × List Nat)) : Bool :=
  is.length == ops.size && (List.range ops.size).all fun i => drawOne P H K N ops an is i && (List.range ops.size).all fun k => drawPair ops.toList an is i k
def kinds3 (P : Program) (H : Hints) (K : List Nat) (N : Nat) (ops : Array Oper) : List Nat := ops.toList.map fun o => let k := (cOper P H K N ops o).k; if freeK k then 0 else if readK k then 1 else 2
def turnAll (an ks : List Nat) (i : Nat) (all : Bool) : Bool := (ks.zipIdx).all fun p => Nat.beq p.1 0 || (!all && Nat.beq p.1 1 && Nat.blt p.2 i) || Nat.beq p.2 i || inTurn an i p.2
def classes (P : Program) (H : Hints) (K : List Nat) (N : Nat) (ops : Array Oper) (an : List Nat) : List (Nat × List Nat) :=
  let ks := kinds3 P H K N ops
  let go2 (i : Nat) : Bool := turnAll an ks i true || (H.isT ((ops[i]?).bind (·.dst)) && turnAll an ks i false)
  let two : List Bool := (ks.zipIdx).map fun p => Nat.beq p.1 2 && go2 p.2
  let rec go (i : Nat) : List Oper → List Nat → List (Nat × List Nat)
    | o :: os, k :: ks' =>
      let c := match k with
        | 0 => 0
        | 1 => if (two.zipIdx).all (fun p => !p.1 || inTurn an i p.2) then (if turnAll an ks i true then 2 else 1) else
          3 + ((((List.range ops.size).filter fun b => two.getD b false && ahead an b i).head?).getD ops.size)
        | _ => if two.getD i false then 2 else 1
      (c, opSlots o.op ++ guardSlots ops o) :: go (i + 1) os ks'
    | _, _ => []
  go 0 ops.toList ks
def cDraw (P : Program) (H : Hints) (K : List Nat) (N : Nat) (ops : Array Oper) : Option (List (Nat × List Nat)) :=
  let an := ancL ops.toList []
  let is := classes P H K N ops an
  if drawOk P H K N ops an is then some is else none
def posOf : List Nat → Nat → Nat
  | [], _ => 0
  | x :: r, i => if Nat.beq x i then 0 else posOf r i + 1
def permO (l : List Nat) (o : Oper) : Oper := { o with after := o.after.map (fun e => { e with on := posOf l e.on }), guard := match o.guard with | none => none | some (j, w) => some (posOf l j, w) }
def permOps (l : List Nat) (ops : Array Oper) : Array Oper := (l.map fun i => permO l (ops.getD i default)).toArray
def permOk (n : Nat) (l : List Nat) : Bool := Nat.beq l.length n && l.all (fun i => Nat.blt i n) && (List.range n).all fun i => Nat.blt (posOf l i) n && Nat.beq (posOf l (l.getD i n)) i
def regOps (H : Hints) (id : Nat) (ops : Array Oper) : Option (Array Oper) := match H.pm id with
  | [] => some ops
  | x :: l => if permOk ops.size (x :: l) then some (permOps (x :: l) ops) else none
def cCode (P : Program) (H : Hints) (K : List Nat) (N : Nat) : Code → HCode
  | .skip => .skip
  | .region _ ops false => .region (ops.toList.map (cOper P H K N ops)) none
  | .region id ops true => match regOps H id ops with
    | some ops => match cDraw P H K N ops with
      | some is => .region (ops.toList.map (cOper P H K N ops)) (some is)
      | none => .bad
    | none => .bad
  | .seq a b => .seq (cCode P H K N a) (cCode P H K N b)
  | .cond c a b => .cond (cHO K c) (cCode P H K N a) (cCode P H K N b)
  | .block id b => .block id (cCode P H K N b)
  | .loop b => .loop (cCode P H K N b)
  | .exit id => .exit id
  | .ret => .ret
  | _ => .bad
def outer : Code → List Nat → List Nat × List Nat
  | .region _ ops _, _ => ops.toList.foldl (fun (acc : List Nat × List Nat) o =>
      let rd := (opSlots o.op ++ (match o.guard with | some (j, _) => (match (ops[j]?).bind (·.dst) with | some d => [d] | none => []) | none => [])).filter fun k => !mem k acc.2
      (acc.1 ++ rd, match o.dst with | some d => d :: acc.2 | none => acc.2)) ([], [])
  | .seq a b, cur =>
    let r := outer a cur
    let s := outer b r.2
    (r.1 ++ s.1, s.2)
  | .cond c a b, cur =>
    let rd := match c with | .tmp k => if mem k cur then [] else [k] | _ => []
    (rd ++ (outer a cur).1 ++ (outer b cur).1, [])
  | .block _ b, cur => ((outer b cur).1, [])
  | .loop b, _ => ((outer b []).1, [])
  | .skip, cur => ([], cur)
  | _, _ => ([], [])
def slotsK (fn : Func) (body : Code) : List Nat :=
  ((List.range fn.params.size ++ (List.range fn.nfree).map (· + fn.params.size)) ++ fn.results.toList.map (fun (r : ResultVar) => match r with | .tmp t => t | .cell a _ => a) ++ (outer body []).1).eraseDups
def cRes (P : Program) : ResultVar → Option HRes
  | .tmp t => some (.tmp t)
  | .cell a t => match P.underlying t, sizeOfT P t with
    | some d, some s => if isAggD d || s = 1 then some (.cell a s (isAggD d)) else none
    | _, _ => none
def isDefer (o : Oper) : Bool := match o.op with | .defer _ => true | _ => false
def cHere (P : Program) (H : Hints) (K : List Nat) (N : Nat) (ops : Array Oper) (post : HCode) : Option HD :=
  match ops.toList.findIdx? isDefer with
  | none => none
  | some i => match ops[i]? with
    | none => none
    | some o => match o.op, o.guard with
      | .defer c, none => match c.callee with
        | .value f => if dstOk N o.dst then some (.here ((ops.toList.take i).map (cOper P H K N ops)) (cHO K f) (c.args.toList.map (cHO K)) o.dst (kOf K o.dst) ((ops.toList.drop (i + 1)).map (cOper P H K N ops)) post) else none
        | _ => none
      | _, _ => none
def cD (P : Program) (H : Hints) (K : List Nat) (N : Nat) : Code → Option HD
  | .seq x y => match x with
    | .region id ops dr => if ops.toList.any isDefer && !dr then cHere P H K N ops (cCode P H K N y) else match cD P H K N y with | some d => some (.after (cCode P H K N (.region id ops dr)) d) | none => none
    | x => match cD P H K N y with | some d => some (.after (cCode P H K N x) d) | none => none
  | _ => none
def cFn (P : Program) (H : Hints) (m : Mode) (f : FuncId) : Option HFn :=
  match P.funcs[f]? with
  | none => none
  | some fn => match fn.body, mapO (cRes P) fn.results.toList with
    | some c, some rs => if fn.name == "runtime.NumGoroutine" || !((List.range (fn.params.size + fn.nfree)).all fun i => mem i (slotsK fn c)) then none else
      match cD P H (slotsK fn c) fn.ntmps c with
      | none => some { nargs := fn.params.size + fn.nfree, code := cCode P H (slotsK fn c) fn.ntmps c, results := rs, mode := m }
      | some d => some { nargs := fn.params.size + fn.nfree, code := .bad, results := rs, mode := m, dfr := some d }
    | _, _ => none
end Go.Proofs.Ytodgdmhifbnofaa.AM
end
section
set_option linter.unusedSimpArgs false
set_option linter.unusedVariables false
set_option linter.unusedVariables false
set_option linter.unusedSimpArgs false
open Go.RowKit
namespace Go.Proofs.Ytodgdmhifbnofaa.AM
def cellAt (h : Array Go.Obj) (b o : Nat) : Option Value :=
  match h[b]? with
  | some (.cells c _ _) => c[o]?
  | _ => none
def bsize (h : Array Go.Obj) (b : Nat) : Nat :=
  match h[b]? with
  | some (.cells c _ _) => c.size
  | _ => 0
mutual
def RT (h : Array Go.Obj) (I : Nat → Prop) : Tree → Value → Prop
  | .sc v, x => x = v
  | .agg cs, x => ∃ xs : List Value, x = .agg xs.toArray ∧ RTL h I cs xs
  | .tup cs, x => ∃ xs : List Value, x = .tuple xs.toArray ∧ RTL h I cs xs
  | .row cs n cap, x => ∃ a c, x = .slice (some a) n c ∧ n ≤ c ∧ (∀ k, cap = some k → c = k) ∧
      (cs = [] ∨ ∃ b o, a = ⟨b, o, none⟩ ∧ I b ∧ RTC h I cs b o)
  | .rptr cs off, x => ∃ b o, x = .pointer (some ⟨b, o + off, none⟩) ∧ I b ∧ RTC h I cs b o
  | .fn f p q, x => ∃ xs ys : List Value, x = .func f xs.toArray ys.toArray ∧ RTL h I p xs ∧ RTL h I q ys
  | .iface t v, x => ∃ y, x = .iface t y ∧ RT h I v y
def RTL (h : Array Go.Obj) (I : Nat → Prop) : List Tree → List Value → Prop
  | [], xs => xs = []
  | t :: ts, xs => ∃ y ys, xs = y :: ys ∧ RT h I t y ∧ RTL h I ts ys
def RTC (h : Array Go.Obj) (I : Nat → Prop) : List Tree → Nat → Nat → Prop
  | [], _, _ => True
  | t :: ts, b, o => (∃ y, cellAt h b o = some y ∧ RT h I t y) ∧ RTC h I ts b (o + 1)
end
abbrev gen : Ob → Nat := genOf
abbrev Rho := Nat → Option (Nat × Nat)
mutual
def RV (h : Array Go.Obj) (I : Nat → Prop) (σ : Store) (ρ : Rho) : V → Value → Prop
  | .tr t, x => RT h I t x
  | .agg cs, x => ∃ xs : List Value, x = .agg xs.toArray ∧ RVL h I σ ρ cs xs
  | .tup cs, x => ∃ xs : List Value, x = .tuple xs.toArray ∧ RVL h I σ ρ cs xs
  | .own id g off len sz cap, x => ∃ ob a c, σ[id]? = some ob ∧ x = .slice (some a) len c ∧ g ≤ gen ob ∧ (g = gen ob → ∃ b o, ρ id = some (b, o) ∧
      len ≤ c ∧ (∀ k, cap = some k → c = k) ∧ (cap = none → o + off + c * sz = bsize h b) ∧ (c = 0 ∨ (a = ⟨b, o + off, none⟩ ∧ o + off + c * sz ≤ bsize h b)))
  | .ptr id g off, x => ∃ ob a, σ[id]? = some ob ∧ x = .pointer (some a) ∧ g ≤ gen ob ∧ (g = gen ob → ∃ b o, ρ id = some (b, o) ∧ a = ⟨b, o + off, none⟩)
  | .fn f p q, x => ∃ xs ys : List Value, x = .func f xs.toArray ys.toArray ∧ RVL h I σ ρ p xs ∧ RVL h I σ ρ q ys
  | .mp id, x => ∃ es c, σ[id]? = some (.map es c) ∧ ∃ b, ρ id = some (b, 0) ∧ x = .map (some b)
  | .iface t v, x => ∃ y, x = .iface t y ∧ RV h I σ ρ v y
def RVL (h : Array Go.Obj) (I : Nat → Prop) (σ : Store) (ρ : Rho) : List V → List Value → Prop
  | [], xs => xs = []
  | t :: ts, xs => ∃ y ys, xs = y :: ys ∧ RV h I σ ρ t y ∧ RVL h I σ ρ ts ys
end
def Icur (n0 : Nat) (I0 : Nat → Prop) (σ : Store) (ρ : Rho) (h : Array Go.Obj) (b : Nat) : Prop :=
  I0 b ∨ (n0 ≤ b ∧ b < h.size ∧ ∀ i o, ρ i = some (b, o) → ∃ ts g, σ[i]? = some (.fro ts g))
def EntR (h : Array Go.Obj) (I : Nat → Prop) (σ : Store) (ρ : Rho) (e : Ent) (c : MapEntry) : Prop :=
  c.key = e.key ∧ c.born = e.born ∧ RV h I σ ρ e.val c.val
def EntsR (h : Array Go.Obj) (I : Nat → Prop) (σ : Store) (ρ : Rho) : List Ent → List MapEntry → Prop
  | [], cs => cs = []
  | e :: es, cs => ∃ d ds, cs = d :: ds ∧ EntR h I σ ρ e d ∧ EntsR h I σ ρ es ds
def ObR (h : Array Go.Obj) (I : Nat → Prop) (σ : Store) (ρ : Rho) (b o : Nat) : Ob → Prop
  | .row cs g => ∃ arr e lo hi, h[b]? = some (.cells arr e (lo, hi)) ∧ (lo = hi ∨ arr.size ≤ lo) ∧ o + cs.length ≤ arr.size ∧
      ∀ k c, cs[k]? = some c → ∃ y, arr[o + k]? = some y ∧ RV h I σ ρ c y
  | .fro ts g => I b ∧ RTC h I ts b o
  | .map es clock => o = 0 ∧ ∃ ces : Array MapEntry, h[b]? = some (.map ces clock) ∧ EntsR h I σ ρ es ces.toList
structure Inv (n0 : Nat) (w0 : World) (I0 : Nat → Prop) (σ : Store) (ρ : Rho) (w : World) : Prop where
  below : Below n0 w0 w
  size0 : n0 ≤ w0.heap.size
  i0 : ∀ b, I0 b → b < n0
  new : ∀ i b o, ρ i = some (b, o) → n0 ≤ b ∧ b < w.heap.size ∧ i < σ.length
  inj : ∀ i j b o o', ρ i = some (b, o) → ρ j = some (b, o') → i = j
  obs : ∀ i b o ob, ρ i = some (b, o) → σ[i]? = some ob → ObR w.heap (Icur n0 I0 σ ρ w.heap) σ ρ b o ob
def isMap : Ob → Bool
  | .map _ _ => true
  | _ => false
structure EvoW (n0 : Nat) (I0 : Nat → Prop) (σ : Store) (ρ : Rho) (h : Array Go.Obj) (σ' : Store) (ρ' : Rho) (h' : Array Go.Obj) : Prop where
  size : h.size ≤ h'.size
  ob : ∀ i ob, σ[i]? = some ob → ∃ ob', σ'[i]? = some ob' ∧ gen ob ≤ gen ob' ∧ isMap ob' = isMap ob ∧
    (gen ob = gen ob' → ∀ p, ρ i = some p → ρ' i = some p ∧ bsize h' p.1 = bsize h p.1)
  dom : ∀ i p, ρ i = some p → ∃ q, ρ' i = some q
  imm : ∀ b, Icur n0 I0 σ ρ h b → Icur n0 I0 σ' ρ' h' b ∧ h'[b]? = h[b]?
structure Evo (n0 : Nat) (I0 : Nat → Prop) (σ : Store) (ρ : Rho) (h : Array Go.Obj) (σ' : Store) (ρ' : Rho) (h' : Array Go.Obj) : Prop extends EvoW n0 I0 σ ρ h σ' ρ' h' where
  out : ∀ i, i < σ.length → ρ i = none → ρ' i = none
theorem cellAt_congr {h h' : Array Go.Obj} {b : Nat} (e : h'[b]? = h[b]?) (o : Nat) : cellAt h' b o = cellAt h b o := by
  unfold cellAt; rw [e]
section
variable {h h' : Array Go.Obj} {I I' : Nat → Prop}
mutual
theorem RT_mono (H : ∀ b, I b → I' b ∧ h'[b]? = h[b]?) : ∀ (t : Tree) (x : Value), RT h I t x → RT h' I' t x
  | .sc v, x, hx => by simpa [RT] using hx
  | .agg cs, x, hx => by
    simp only [RT] at hx ⊢
    obtain ⟨xs, e, r⟩ := hx
    exact ⟨xs, e, RTL_mono H cs xs r⟩
  | .tup cs, x, hx => by
    simp only [RT] at hx ⊢
    obtain ⟨xs, e, r⟩ := hx
    exact ⟨xs, e, RTL_mono H cs xs r⟩
  | .row cs n cap, x, hx => by
    simp only [RT] at hx ⊢
    obtain ⟨a, c, e, hn, hc, r⟩ := hx
    refine ⟨a, c, e, hn, hc, ?_⟩
    rcases r with r | ⟨b, o, ea, hI, r⟩
    · exact .inl r
    · exact .inr ⟨b, o, ea, (H b hI).1, RTC_mono H cs b o hI r⟩
  | .rptr cs off, x, hx => by
    simp only [RT] at hx ⊢
    obtain ⟨b, o, e, hI, r⟩ := hx
    exact ⟨b, o, e, (H b hI).1, RTC_mono H cs b o hI r⟩
  | .fn f p q, x, hx => by
    simp only [RT] at hx ⊢
    obtain ⟨xs, ys, e, r, s⟩ := hx
    exact ⟨xs, ys, e, RTL_mono H p xs r, RTL_mono H q ys s⟩
  | .iface t v, x, hx => by
    simp only [RT] at hx ⊢
    obtain ⟨y, e, r⟩ := hx
    exact ⟨y, e, RT_mono H v y r⟩
theorem RTL_mono (H : ∀ b, I b → I' b ∧ h'[b]? = h[b]?) : ∀ (ts : List Tree) (xs : List Value), RTL h I ts xs → RTL h' I' ts xs
  | [], xs, hx => by simpa [RTL] using hx
  | t :: ts, xs, hx => by
    simp only [RTL] at hx ⊢
    obtain ⟨y, ys, e, r, s⟩ := hx
    exact ⟨y, ys, e, RT_mono H t y r, RTL_mono H ts ys s⟩
theorem RTC_mono (H : ∀ b, I b → I' b ∧ h'[b]? = h[b]?) : ∀ (ts : List Tree) (b o : Nat), I b → RTC h I ts b o → RTC h' I' ts b o
  | [], b, o, hI, hx => by simp [RTC]
  | t :: ts, b, o, hI, hx => by
    simp only [RTC] at hx ⊢
    obtain ⟨⟨y, e, r⟩, s⟩ := hx
    exact ⟨⟨y, (cellAt_congr (H b hI).2 o).trans e, RT_mono H t y r⟩, RTC_mono H ts b (o + 1) hI s⟩
end
end
section
variable {n0 : Nat} {I0 : Nat → Prop} {σ σ' : Store} {ρ ρ' : Rho} {h h' : Array Go.Obj}
mutual
theorem RV_monoW (E : EvoW n0 I0 σ ρ h σ' ρ' h') : ∀ (v : V) (x : Value), RV h (Icur n0 I0 σ ρ h) σ ρ v x → RV h' (Icur n0 I0 σ' ρ' h') σ' ρ' v x
  | .tr t, x, hx => by
    simp only [RV] at hx ⊢
    exact RT_mono E.imm t x hx
  | .agg cs, x, hx => by
    simp only [RV] at hx ⊢
    obtain ⟨xs, e, r⟩ := hx
    exact ⟨xs, e, RVL_monoW E cs xs r⟩
  | .tup cs, x, hx => by
    simp only [RV] at hx ⊢
    obtain ⟨xs, e, r⟩ := hx
    exact ⟨xs, e, RVL_monoW E cs xs r⟩
  | .own id g off len sz cap, x, hx => by
    simp only [RV] at hx ⊢
    obtain ⟨ob, a, c, e, ex, hg, r⟩ := hx
    obtain ⟨ob', e', hg', _, r'⟩ := E.ob id ob e
    refine ⟨ob', a, c, e', ex, by omega, fun hh => ?_⟩
    have hh' : gen ob = gen ob' := by omega
    obtain ⟨b, o, hρ, hl, hc, hn, hd⟩ := r (by omega)
    obtain ⟨hρ', hb⟩ := r' hh' _ hρ
    exact ⟨b, o, hρ', hl, hc, by rw [hb]; exact hn, by rw [hb]; exact hd⟩
  | .ptr id g off, x, hx => by
    simp only [RV] at hx ⊢
    obtain ⟨ob, a, e, ex, hg, r⟩ := hx
    obtain ⟨ob', e', hg', _, r'⟩ := E.ob id ob e
    refine ⟨ob', a, e', ex, by omega, fun hh => ?_⟩
    have hh' : gen ob = gen ob' := by omega
    obtain ⟨b, o, hρ, ea⟩ := r (by omega)
    exact ⟨b, o, (r' hh' _ hρ).1, ea⟩
  | .fn f p q, x, hx => by
    simp only [RV] at hx ⊢
    obtain ⟨xs, ys, e, r, s⟩ := hx
    exact ⟨xs, ys, e, RVL_monoW E p xs r, RVL_monoW E q ys s⟩
  | .mp id, x, hx => by
    simp only [RV] at hx ⊢
    obtain ⟨es, c, e, b, hρ, ex⟩ := hx
    obtain ⟨ob', e', hg', hm, r'⟩ := E.ob id _ e
    cases ob' with
    | row _ _ => simp [isMap] at hm
    | fro _ _ => simp [isMap] at hm
    | map es' c' => exact ⟨es', c', e', b, (r' rfl _ hρ).1, ex⟩
  | .iface t v, x, hx => by
    simp only [RV] at hx ⊢
    obtain ⟨y, e, r⟩ := hx
    exact ⟨y, e, RV_monoW E v y r⟩
theorem RVL_monoW (E : EvoW n0 I0 σ ρ h σ' ρ' h') : ∀ (vs : List V) (xs : List Value), RVL h (Icur n0 I0 σ ρ h) σ ρ vs xs → RVL h' (Icur n0 I0 σ' ρ' h') σ' ρ' vs xs
  | [], xs, hx => by simpa [RVL] using hx
  | v :: vs, xs, hx => by
    simp only [RVL] at hx ⊢
    obtain ⟨y, ys, e, r, s⟩ := hx
    exact ⟨y, ys, e, RV_monoW E v y r, RVL_monoW E vs ys s⟩
end
theorem EntsR_monoW (E : EvoW n0 I0 σ ρ h σ' ρ' h') : ∀ (es : List Ent) (cs : List MapEntry), EntsR h (Icur n0 I0 σ ρ h) σ ρ es cs → EntsR h' (Icur n0 I0 σ' ρ' h') σ' ρ' es cs
  | [], cs, hx => hx
  | e :: es, cs, hx => by
    obtain ⟨d, ds, e1, ⟨k1, k2, k3⟩, r⟩ := hx
    exact ⟨d, ds, e1, ⟨k1, k2, RV_monoW E _ _ k3⟩, EntsR_monoW E es ds r⟩
theorem RV_mono (E : Evo n0 I0 σ ρ h σ' ρ' h') : ∀ (v : V) (x : Value), RV h (Icur n0 I0 σ ρ h) σ ρ v x → RV h' (Icur n0 I0 σ' ρ' h') σ' ρ' v x := RV_monoW E.toEvoW
theorem RVL_mono (E : Evo n0 I0 σ ρ h σ' ρ' h') : ∀ (vs : List V) (xs : List Value), RVL h (Icur n0 I0 σ ρ h) σ ρ vs xs → RVL h' (Icur n0 I0 σ' ρ' h') σ' ρ' vs xs := RVL_monoW E.toEvoW
theorem EntsR_mono (E : Evo n0 I0 σ ρ h σ' ρ' h') : ∀ (es : List Ent) (cs : List MapEntry), EntsR h (Icur n0 I0 σ ρ h) σ ρ es cs → EntsR h' (Icur n0 I0 σ' ρ' h') σ' ρ' es cs := EntsR_monoW E.toEvoW
theorem Evo.refl : Evo n0 I0 σ ρ h σ ρ h :=
  ⟨⟨Nat.le_refl _, fun i ob e => ⟨ob, e, Nat.le_refl _, rfl, fun _ p hp => ⟨hp, rfl⟩⟩, fun i p hp => ⟨p, hp⟩, fun b hb => ⟨hb, rfl⟩⟩, fun _ _ h => h⟩
theorem EvoW.trans {σ2 : Store} {ρ2 : Rho} {h2 : Array Go.Obj} (E : EvoW n0 I0 σ ρ h σ' ρ' h') (F : EvoW n0 I0 σ' ρ' h' σ2 ρ2 h2) : EvoW n0 I0 σ ρ h σ2 ρ2 h2 := by
  refine ⟨Nat.le_trans E.size F.size, fun i ob e => ?_, fun i p hp => ?_, fun b hb => ?_⟩
  · obtain ⟨ob', e', hg, hm, r⟩ := E.ob i ob e
    obtain ⟨ob2, e2, hg2, hm2, r2⟩ := F.ob i ob' e'
    refine ⟨ob2, e2, by omega, hm2.trans hm, fun hh p hp => ?_⟩
    have h1 := r (by omega) p hp
    have h2 := r2 (by omega) p h1.1
    exact ⟨h2.1, h2.2.trans h1.2⟩
  · obtain ⟨q, hq⟩ := E.dom i p hp
    exact F.dom i q hq
  · obtain ⟨h1, e1⟩ := E.imm b hb
    obtain ⟨h2, e2⟩ := F.imm b h1
    exact ⟨h2, e2.trans e1⟩
theorem Evo.trans {σ2 : Store} {ρ2 : Rho} {h2 : Array Go.Obj} (E : Evo n0 I0 σ ρ h σ' ρ' h') (F : Evo n0 I0 σ' ρ' h' σ2 ρ2 h2) : Evo n0 I0 σ ρ h σ2 ρ2 h2 := by
  refine ⟨E.toEvoW.trans F.toEvoW, fun i hi hn => ?_⟩
  obtain ⟨ob', e', _⟩ := E.ob i _ (List.getElem?_eq_getElem hi)
  exact F.out i (List.getElem?_eq_some_iff.1 e').1 (E.out i hi hn)
end
end Go.Proofs.Ytodgdmhifbnofaa.AM
end
section
set_option linter.unusedSimpArgs false
set_option linter.unusedVariables false
set_option linter.unusedVariables false
set_option linter.unusedSimpArgs false
open Go.RowKit
namespace Go.Proofs.Ytodgdmhifbnofaa.AM
section
variable {n0 : Nat} {w0 : World} {I0 : Nat → Prop} {σ σ' : Store} {ρ ρ' : Rho} {h h' : Array Go.Obj} {w w' : World}
theorem ObR_monoW (E : EvoW n0 I0 σ ρ h σ' ρ' h') {b o : Nat} (e : h'[b]? = h[b]?) : ∀ {ob : Ob}, ObR h (Icur n0 I0 σ ρ h) σ ρ b o ob → ObR h' (Icur n0 I0 σ' ρ' h') σ' ρ' b o ob
  | .row cs g, ⟨arr, t, lo, hi, e1, e2, e3, r⟩ => ⟨arr, t, lo, hi, e.trans e1, e2, e3, fun k c hc => by
      obtain ⟨y, hy, hr⟩ := r k c hc
      exact ⟨y, hy, RV_monoW E _ _ hr⟩⟩
  | .fro ts g, ⟨hI, r⟩ => ⟨(E.imm b hI).1, RTC_mono E.imm ts b o hI r⟩
  | .map es c, ⟨h0, ces, e1, r⟩ => ⟨h0, ces, e.trans e1, EntsR_monoW E _ _ r⟩
theorem ObR_mono (E : Evo n0 I0 σ ρ h σ' ρ' h') {b o : Nat} (e : h'[b]? = h[b]?) {ob : Ob} : ObR h (Icur n0 I0 σ ρ h) σ ρ b o ob → ObR h' (Icur n0 I0 σ' ρ' h') σ' ρ' b o ob := ObR_monoW E.toEvoW e
theorem Inv.n0_le (hI : Inv n0 w0 I0 σ ρ w) : n0 ≤ w.heap.size := Nat.le_trans hI.size0 hI.below.size
def upd (ρ : Rho) (id : Nat) (p : Nat × Nat) : Rho := fun i => if i = id then some p else ρ i
theorem upd_same (ρ : Rho) (id : Nat) (p : Nat × Nat) : upd ρ id p id = some p := by simp [upd]
theorem upd_other (ρ : Rho) {id i : Nat} (p : Nat × Nat) (hi : i ≠ id) : upd ρ id p i = ρ i := by simp [upd, hi]
theorem Inv.update (hI : Inv n0 w0 I0 σ ρ w) {id b' o' : Nat} {ob' : Ob}
    (hget : σ'[id]? = some ob') (hother : ∀ i, i ≠ id → σ'[i]? = σ[i]?) (hlen : σ.length ≤ σ'.length)
    (hbel : Below n0 w0 w') (hsize : w.heap.size ≤ w'.heap.size) (hlt : b' < w'.heap.size)
    (hb : (∃ o, ρ id = some (b', o)) ∨ w.heap.size ≤ b')
    (hold : ∀ ob, σ[id]? = some ob → (∃ p, ρ id = some p) ∧ (∀ ts g, ob ≠ .fro ts g) ∧ gen ob ≤ gen ob' ∧ isMap ob' = isMap ob ∧
      (gen ob = gen ob' → ρ id = some (b', o') ∧ bsize w'.heap b' = bsize w.heap b'))
    (hsame : ∀ b, b < w.heap.size → (∀ o, ρ id ≠ some (b, o)) → w'.heap[b]? = w.heap[b]?)
    (hob : Evo n0 I0 σ ρ w.heap σ' (upd ρ id (b', o')) w'.heap → ObR w'.heap (Icur n0 I0 σ' (upd ρ id (b', o')) w'.heap) σ' (upd ρ id (b', o')) b' o' ob') :
    Inv n0 w0 I0 σ' (upd ρ id (b', o')) w' ∧ Evo n0 I0 σ ρ w.heap σ' (upd ρ id (b', o')) w'.heap := by
  have hmapped : ∀ p, ρ id = some p → ∃ ob, σ[id]? = some ob ∧ ∀ ts g, ob ≠ .fro ts g := by
    intro p hp
    have := (hI.new id p.1 p.2 hp).2.2
    obtain ⟨ob, hob'⟩ : ∃ ob, σ[id]? = some ob := ⟨σ[id], List.getElem?_eq_getElem this⟩
    exact ⟨ob, hob', (hold ob hob').2.1⟩
  have hn0 : n0 ≤ b' := by
    rcases hb with ⟨o, ho⟩ | hb
    · exact (hI.new id b' o ho).1
    · exact Nat.le_trans hI.n0_le hb
  have hfree : ∀ b, Icur n0 I0 σ ρ w.heap b → b < w.heap.size ∧ b ≠ b' ∧ ∀ o, ρ id ≠ some (b, o) := by
    intro b hc
    have hno : ∀ o, ρ id ≠ some (b, o) := by
      intro o ho
      obtain ⟨ob, e, hf⟩ := hmapped _ ho
      rcases hc with hc | ⟨_, _, hc⟩
      · have := hI.i0 b hc
        have := (hI.new id b o ho).1
        omega
      · obtain ⟨ts, g, e'⟩ := hc id o ho
        rw [e] at e'
        exact hf ts g (Option.some.inj e')
    have hbl : b < w.heap.size := by
      rcases hc with hc | ⟨_, hc, _⟩
      · have := hI.i0 b hc
        have := hI.n0_le
        omega
      · exact hc
    refine ⟨hbl, ?_, hno⟩
    rintro rfl
    rcases hb with ⟨o, ho⟩ | hb
    · exact hno o ho
    · omega
  have E : Evo n0 I0 σ ρ w.heap σ' (upd ρ id (b', o')) w'.heap := by
    refine ⟨⟨hsize, fun i ob e => ?_, fun i p hp => ?_, fun b hc => ?_⟩, fun i hi hn => ?_⟩
    · by_cases hi : i = id
      · subst hi
        obtain ⟨_, hf, hg, hm, hr⟩ := hold ob e
        refine ⟨ob', hget, hg, hm, fun hh p hp => ?_⟩
        obtain ⟨h1, h2⟩ := hr hh
        rw [h1] at hp
        cases hp
        exact ⟨upd_same _ _ _, h2⟩
      · refine ⟨ob, (hother i hi).trans e, Nat.le_refl _, rfl, fun _ p hp => ⟨(upd_other _ _ hi).trans hp, ?_⟩⟩
        have hne : ∀ o, ρ id ≠ some (p.1, o) := fun o ho => hi (hI.inj i id p.1 p.2 o hp ho)
        unfold bsize
        rw [hsame p.1 (hI.new i p.1 p.2 hp).2.1 hne]
    · by_cases hi : i = id
      · subst hi
        exact ⟨_, upd_same _ _ _⟩
      · exact ⟨p, (upd_other _ _ hi).trans hp⟩
    · obtain ⟨hbl, hne, hno⟩ := hfree b hc
      refine ⟨?_, hsame b hbl hno⟩
      rcases hc with hc | ⟨h1, h2, hc⟩
      · exact .inl hc
      · refine .inr ⟨h1, by omega, fun i o ho => ?_⟩
        by_cases hi : i = id
        · subst hi
          rw [upd_same] at ho
          cases ho
          exact absurd rfl hne
        · rw [upd_other _ _ hi] at ho
          rw [hother i hi]
          exact hc i o ho
    · by_cases hi' : i = id
      · subst hi'
        obtain ⟨⟨p, hp⟩, _⟩ := hold _ (List.getElem?_eq_getElem hi)
        rw [hn] at hp
        cases hp
      · exact (upd_other _ _ hi').trans hn
  refine ⟨⟨hbel, hI.size0, hI.i0, fun i b o ho => ?_, fun i j b o o2 h1 h2 => ?_, fun i b o ob ho e => ?_⟩, E⟩
  · by_cases hi : i = id
    · subst hi
      rw [upd_same] at ho
      cases ho
      refine ⟨hn0, hlt, ?_⟩
      rcases Nat.lt_or_ge i σ'.length with h | h
      · exact h
      · rw [List.getElem?_eq_none h] at hget
        cases hget
    · rw [upd_other _ _ hi] at ho
      have := hI.new i b o ho
      exact ⟨this.1, by omega, by omega⟩
  · have key : ∀ i o, i ≠ id → upd ρ id (b', o') i = some (b, o) → ∀ o2, upd ρ id (b', o') id = some (b, o2) → False := by
      intro i o hi h1 o2 h2
      rw [upd_other _ _ hi] at h1
      rw [upd_same] at h2
      cases h2
      rcases hb with ⟨o3, h3⟩ | hb
      · exact hi (hI.inj i id _ o o3 h1 h3)
      · have := (hI.new i _ o h1).2.1
        omega
    by_cases hi : i = id
    · by_cases hj : j = id
      · omega
      · subst hi
        exact (key j o2 hj h2 o h1).elim
    · by_cases hj : j = id
      · subst hj
        exact (key i o hi h1 o2 h2).elim
      · rw [upd_other _ _ hi] at h1
        rw [upd_other _ _ hj] at h2
        exact hI.inj i j b o o2 h1 h2
  · by_cases hi : i = id
    · subst hi
      rw [upd_same] at ho
      cases ho
      rw [hget] at e
      cases e
      exact hob E
    · rw [upd_other _ _ hi] at ho
      rw [hother i hi] at e
      have hne : ∀ o, ρ id ≠ some (b, o) := fun o2 h2 => hi (hI.inj i id b o o2 ho h2)
      exact ObR_mono E (hsame b (hI.new i b o ho).2.1 hne) (hI.obs i b o ob ho e)
theorem Inv.alloc (hI : Inv n0 w0 I0 σ ρ w) {ob : Ob} {o : Go.Obj} (hw : w'.heap = w.heap.push o) (hbel : Below n0 w0 w')
    (hob : Evo n0 I0 σ ρ w.heap (σ ++ [ob]) (upd ρ σ.length (w.heap.size, 0)) w'.heap →
      ObR w'.heap (Icur n0 I0 (σ ++ [ob]) (upd ρ σ.length (w.heap.size, 0)) w'.heap) (σ ++ [ob]) (upd ρ σ.length (w.heap.size, 0)) w.heap.size 0 ob) :
    Inv n0 w0 I0 (σ ++ [ob]) (upd ρ σ.length (w.heap.size, 0)) w' ∧ Evo n0 I0 σ ρ w.heap (σ ++ [ob]) (upd ρ σ.length (w.heap.size, 0)) w'.heap := by
  refine hI.update (by simp) (fun i hi => ?_) (by simp) hbel (by simp [hw]) (by simp [hw]) (.inr (Nat.le_refl _)) (fun ob e => ?_) (fun b hb _ => ?_) hob
  · rcases Nat.lt_or_ge i σ.length with h | h
    · rw [List.getElem?_append_left h]
    · rw [List.getElem?_eq_none (by simp; omega), List.getElem?_eq_none h]
  · rw [List.getElem?_eq_none (Nat.le_refl _)] at e
    cases e
  · rw [hw, Array.getElem?_push, if_neg (by omega)]
theorem Inv.congr (hI : Inv n0 w0 I0 σ ρ w) (e : w'.heap = w.heap) (hbel : Below n0 w0 w') : Inv n0 w0 I0 σ ρ w' :=
  ⟨hbel, hI.size0, hI.i0, fun i b o h => by rw [e]; exact hI.new i b o h, hI.inj, fun i b o ob h k => by rw [e]; exact hI.obs i b o ob h k⟩
theorem Inv.drew (hI : Inv n0 w0 I0 σ ρ w) : Inv n0 w0 I0 σ ρ w.drew := hI.congr rfl hI.below.drew
end
end Go.Proofs.Ytodgdmhifbnofaa.AM
end
section
set_option linter.unusedSimpArgs false
set_option linter.unusedVariables false
set_option linter.unusedVariables false
set_option linter.unusedSimpArgs false
open Go.RowKit
namespace Go.Proofs.Ytodgdmhifbnofaa.AM
section
variable {P : Program} {w : World}
theorem cell?_eq (w : World) (b o : Nat) : w.cell? ⟨b, o, none⟩ = cellAt w.heap b o := by
  unfold World.cell? cellAt
  cases w.heap[b]? with
  | none => rfl
  | some x => cases x <;> rfl
theorem addr_add (b o n : Nat) : Addr.add ⟨b, o, none⟩ n = ⟨b, o + n, none⟩ := by
  unfold Addr.add; split
  · subst_vars; rfl
  · rfl
theorem run_load_at {b o : Nat} {y : Value} (h : cellAt w.heap b o = some y) : (load ⟨b, o, none⟩).run P w = .ok y w := by
  rw [run_load, cell?_eq, h]
theorem run_loadCellsFrom {b o : Nat} : ∀ (n i : Nat) (acc : Array Value) (ys : List Value), ys.length = n →
    (∀ k y, ys[k]? = some y → cellAt w.heap b (o + i + k) = some y) → (loadCellsFrom ⟨b, o, none⟩ i n acc).run P w = .ok (acc ++ ys.toArray) w
  | 0, i, acc, ys, hl, _ => by
    have : ys = [] := List.length_eq_zero_iff.1 hl
    subst this
    simp [loadCellsFrom]
  | n + 1, i, acc, ys, hl, h => by
    cases ys with
    | nil => simp at hl
    | cons y ys =>
      have h0 := h 0 y rfl
      rw [loadCellsFrom, Sem.run_bind, addr_add, run_load_at (by simpa using h0), Result.andThen_ok]
      rw [run_loadCellsFrom n (i + 1) (acc.push y) ys (by simpa using hl) (fun k z hk => by
        have := h (k + 1) z (by simpa using hk)
        rw [show o + (i + 1) + k = o + i + (k + 1) by omega]; exact this)]
      congr 1
      rw [Array.push_eq_append, Array.append_assoc]
      congr 1
      simp
theorem run_loadCells {b o : Nat} {ys : List Value} (h : ∀ k y, ys[k]? = some y → cellAt w.heap b (o + k) = some y) :
    (loadCells ⟨b, o, none⟩ ys.length).run P w = .ok ys.toArray w := by
  rw [loadCells, run_loadCellsFrom ys.length 0 #[] ys rfl (fun k y hk => by simpa using h k y hk)]
  simp
theorem run_isAgg {t : TypeId} {d : TypeDesc} (h : P.underlying t = some d) : (isAgg t).run P w = .ok (isAggD d) w := by
  simp only [isAgg, Sem.run_bind, run_underlying h, Result.andThen_ok]
  cases d <;> rfl
theorem info_of_size {t : TypeId} {s : Nat} (h : sizeOfT P t = some s) : ∃ i, P.info? t = some i ∧ i.size = s := by
  unfold sizeOfT at h
  cases e : P.info? t with
  | none => rw [e] at h; cases h
  | some i => rw [e] at h; exact ⟨i, rfl, by simpa using h⟩
theorem run_sizeOf' {t : TypeId} {s : Nat} (h : sizeOfT P t = some s) : (sizeOf t).run P w = .ok s w := by
  obtain ⟨i, e, r⟩ := info_of_size h
  simp [sizeOf, typeInfo, e, r]
theorem run_typeInfo' {t : TypeId} {i : TypeInfo} (h : P.info? t = some i) : (typeInfo t).run P w = .ok i w := by
  simp [typeInfo, h]
theorem bytes_of {t : TypeId} {s : Nat} (h : bytesOfT P t = some s) : ∃ i, P.info? t = some i ∧ i.bytes = s := by
  unfold bytesOfT at h
  cases e : P.info? t with
  | none => rw [e] at h; cases h
  | some i => rw [e] at h; exact ⟨i, rfl, by simpa using h⟩
theorem zero_of {t : TypeId} {z : List Tree} (h : zeroOf P t = some z) : ∃ i v, P.info? t = some i ∧ i.zero = some v ∧ z = v.cells.toList.map .sc := by
  unfold zeroOf at h
  cases e : P.info? t with
  | none => rw [e] at h; cases h
  | some i =>
    rw [e] at h
    simp only at h
    cases e2 : i.zero with
    | none => rw [e2] at h; cases h
    | some v => rw [e2] at h; exact ⟨i, v, rfl, e2, by simpa using h.symm⟩
theorem run_zeroValue' {t : TypeId} {i : TypeInfo} {v : Value} (h : P.info? t = some i) (hz : i.zero = some v) : (zeroValue t).run P w = .ok v w := by
  simp [zeroValue, typeInfo, h, hz]
theorem run_loadVar_agg {t : TypeId} {d : TypeDesc} {b o : Nat} {ys : List Value} (hu : P.underlying t = some d) (hd : isAggD d = true)
    (hs : sizeOfT P t = some ys.length) (h : ∀ k y, ys[k]? = some y → cellAt w.heap b (o + k) = some y) :
    (loadVar t ⟨b, o, none⟩).run P w = .ok (.agg ys.toArray) w := by
  simp only [loadVar, Sem.run_bind, run_isAgg hu, Result.andThen_ok, hd, if_true, run_sizeOf' hs, run_loadCells h, Sem.run_pure]
theorem run_loadVar_one {t : TypeId} {d : TypeDesc} {b o : Nat} {y : Value} (hu : P.underlying t = some d) (hd : isAggD d = false)
    (h : cellAt w.heap b o = some y) : (loadVar t ⟨b, o, none⟩).run P w = .ok y w := by
  simp only [loadVar, Sem.run_bind, run_isAgg hu, Result.andThen_ok, hd, Bool.false_eq_true, if_false, run_load_at h]
def putArr (arr : Array Value) (o : Nat) : List Value → Array Value
  | [] => arr
  | v :: vs => putArr (arr.setIfInBounds o v) (o + 1) vs
theorem putArr_size : ∀ (vs : List Value) (arr : Array Value) (o : Nat), (putArr arr o vs).size = arr.size
  | [], arr, o => rfl
  | v :: vs, arr, o => by rw [putArr, putArr_size vs]; simp
theorem putArr_get : ∀ (vs : List Value) (arr : Array Value) (o k : Nat), o + vs.length ≤ arr.size →
    (putArr arr o vs)[k]? = if o ≤ k ∧ k < o + vs.length then vs[k - o]? else arr[k]?
  | [], arr, o, k, _ => by
    rw [putArr, if_neg (by simp)]
  | v :: vs, arr, o, k, h => by
    simp only [List.length_cons] at h
    rw [putArr, putArr_get vs _ _ k (by simp; omega)]
    by_cases h1 : o + 1 ≤ k ∧ k < o + 1 + vs.length
    · rw [if_pos h1, if_pos (by simp; omega)]
      rw [show k - o = (k - (o + 1)) + 1 by omega]
      simp
    · rw [if_neg h1, Array.getElem?_setIfInBounds]
      by_cases h2 : o = k
      · subst h2
        rw [if_pos rfl, if_pos (by omega), if_pos (by simp)]
        simp
      · rw [if_neg h2, if_neg (by simp; omega)]
def World.wset (w : World) (b : Nat) (o : Go.Obj) : World := { w with heap := w.heap.setIfInBounds b o }
theorem wset_get (w : World) (b : Nat) (o : Go.Obj) (hb : b < w.heap.size) : (World.wset w b o).heap[b]? = some o := by
  simp [World.wset, hb]
theorem wset_other (w : World) (b k : Nat) (o : Go.Obj) (h : k ≠ b) : (World.wset w b o).heap[k]? = w.heap[k]? := by
  simp only [World.wset]
  rw [Array.getElem?_setIfInBounds, if_neg (fun e => h e.symm)]
theorem wset_size (w : World) (b : Nat) (o : Go.Obj) : (World.wset w b o).heap.size = w.heap.size := by simp [World.wset]
theorem wset_below {n0 : Nat} {w0 : World} (h : Below n0 w0 w) {b : Nat} (o : Go.Obj) (hb : n0 ≤ b) : Below n0 w0 (World.wset w b o) :=
  ⟨h.os, h.tape, h.output, by rw [wset_size]; exact h.size, fun k hk => (wset_other w b k o (by omega)).trans (h.block k hk)⟩
theorem setCell_eq {b o : Nat} {arr : Array Value} {e : TypeId} {fr : Nat × Nat} (h : w.heap[b]? = some (.cells arr e fr)) (v : Value) :
    w.setCell ⟨b, o, none⟩ v = World.wset w b (.cells (arr.setIfInBounds o v) e fr) := by
  have hb : b < w.heap.size := by
    rcases Nat.lt_or_ge b w.heap.size with h1 | h1
    · exact h1
    · rw [Array.getElem?_eq_none h1] at h; cases h
  unfold World.setCell World.wset
  congr 1
  apply Array.ext_getElem?
  intro i
  rw [Array.getElem?_modify, Array.getElem?_setIfInBounds]
  by_cases hi : b = i
  · subst hi
    simp only [if_true, h, hb]
    rfl
  · simp only [hi, if_false]
theorem wset_wset (w : World) (b : Nat) (o o' : Go.Obj) : World.wset (World.wset w b o) b o' = World.wset w b o' := by
  unfold World.wset
  simp
theorem run_storeCells {b : Nat} {e : TypeId} {lo hi : Nat} : ∀ (vs : List Value) (o i : Nat) (w : World) (arr : Array Value), w.heap[b]? = some (.cells arr e (lo, hi)) →
    (hi ≤ lo ∨ arr.size ≤ lo) → o + i + vs.length ≤ arr.size → (∀ v ∈ vs, v.oneCell' = true) →
    (storeCells ⟨b, o, none⟩ vs i).run P w = .ok () (if vs = [] then w else World.wset w b (.cells (putArr arr (o + i) vs) e (lo, hi)))
  | [], o, i, w, arr, h, hf, hl, h1 => by simp [storeCells]
  | v :: vs, o, i, w, arr, h, hf, hl, h1 => by
    simp only [List.length_cons] at hl
    have hb : b < w.heap.size := by
      rcases Nat.lt_or_ge b w.heap.size with h1 | h1
      · exact h1
      · rw [Array.getElem?_eq_none h1] at h; cases h
    have hc : cellAt w.heap b (o + i) = some (arr[o + i]'(by omega)) := by
      unfold cellAt; rw [h]; exact Array.getElem?_eq_getElem _
    have hfz : w.frozen? ⟨b, o + i, none⟩ = false := by
      unfold World.frozen?
      rw [h]
      simp only [Bool.and_eq_false_iff, decide_eq_false_iff_not]
      omega
    rw [storeCells, Sem.run_bind, addr_add, run_store P w _ _ _ (h1 v (by simp)), cell?_eq, hc]
    simp only [hfz, Bool.false_eq_true, if_false, Result.andThen_ok]
    rw [setCell_eq h]
    have := run_storeCells vs o (i + 1) (World.wset w b (.cells (arr.setIfInBounds (o + i) v) e (lo, hi))) (arr.setIfInBounds (o + i) v) (wset_get w b _ hb) (by simpa using hf) (by simp; omega) (fun v hv => h1 v (by simp [hv]))
    rw [this]
    simp only [reduceCtorEq, if_false]
    cases vs with
    | nil => simp [putArr]
    | cons u us =>
      simp only [reduceCtorEq, if_false, wset_wset]
      rfl
end
end Go.Proofs.Ytodgdmhifbnofaa.AM
end
section
set_option linter.unusedSimpArgs false
set_option linter.unusedVariables false
set_option linter.unusedVariables false
set_option linter.unusedSimpArgs false
open Go.RowKit
namespace Go.Proofs.Ytodgdmhifbnofaa.AM
section
variable {h : Array Go.Obj} {I : Nat → Prop} {σ : Store} {ρ : Rho}
theorem RVL_iff : ∀ (vs : List V) (xs : List Value), RVL h I σ ρ vs xs ↔ vs.length = xs.length ∧ ∀ (k : Nat) v, vs[k]? = some v → ∃ x, xs[k]? = some x ∧ RV h I σ ρ v x
  | [], xs => by
    simp only [RVL]
    constructor
    · rintro rfl; simp
    · rintro ⟨e, _⟩; exact List.length_eq_zero_iff.1 e.symm
  | v :: vs, xs => by
    simp only [RVL]
    constructor
    · rintro ⟨y, ys, rfl, r, s⟩
      obtain ⟨e, s⟩ := (RVL_iff vs ys).1 s
      refine ⟨by simp [e], fun k v' hk => ?_⟩
      cases k with
      | zero => simp at hk; subst hk; exact ⟨y, rfl, r⟩
      | succ k => exact s k v' (by simpa using hk)
    · rintro ⟨e, s⟩
      cases xs with
      | nil => simp at e
      | cons y ys =>
        refine ⟨y, ys, rfl, ?_, (RVL_iff vs ys).2 ⟨by simpa using e, fun k v' hk => ?_⟩⟩
        · obtain ⟨x, hx, r⟩ := s 0 v rfl
          simp at hx; subst hx; exact r
        · obtain ⟨x, hx, r⟩ := s (k + 1) v' (by simpa using hk)
          exact ⟨x, by simpa using hx, r⟩
theorem RTL_iff : ∀ (vs : List Tree) (xs : List Value), RTL h I vs xs ↔ vs.length = xs.length ∧ ∀ (k : Nat) v, vs[k]? = some v → ∃ x, xs[k]? = some x ∧ RT h I v x
  | [], xs => by
    simp only [RTL]
    constructor
    · rintro rfl; simp
    · rintro ⟨e, _⟩; exact List.length_eq_zero_iff.1 e.symm
  | v :: vs, xs => by
    simp only [RTL]
    constructor
    · rintro ⟨y, ys, rfl, r, s⟩
      obtain ⟨e, s⟩ := (RTL_iff vs ys).1 s
      refine ⟨by simp [e], fun k v' hk => ?_⟩
      cases k with
      | zero => simp at hk; subst hk; exact ⟨y, rfl, r⟩
      | succ k => exact s k v' (by simpa using hk)
    · rintro ⟨e, s⟩
      cases xs with
      | nil => simp at e
      | cons y ys =>
        refine ⟨y, ys, rfl, ?_, (RTL_iff vs ys).2 ⟨by simpa using e, fun k v' hk => ?_⟩⟩
        · obtain ⟨x, hx, r⟩ := s 0 v rfl
          simp at hx; subst hx; exact r
        · obtain ⟨x, hx, r⟩ := s (k + 1) v' (by simpa using hk)
          exact ⟨x, by simpa using hx, r⟩
theorem RTC_iff : ∀ (ts : List Tree) (b o : Nat), RTC h I ts b o ↔ ∀ (k : Nat) t, ts[k]? = some t → ∃ y, cellAt h b (o + k) = some y ∧ RT h I t y
  | [], b, o => by simp [RTC]
  | t :: ts, b, o => by
    simp only [RTC]
    constructor
    · rintro ⟨r, s⟩ k t' hk
      cases k with
      | zero => simp at hk; subst hk; simpa using r
      | succ k =>
        have := (RTC_iff ts b (o + 1)).1 s k t' (by simpa using hk)
        rw [show o + (k + 1) = o + 1 + k by omega]; exact this
    · intro s
      refine ⟨by simpa using s 0 t rfl, (RTC_iff ts b (o + 1)).2 fun k t' hk => ?_⟩
      have := s (k + 1) t' (by simpa using hk)
      rw [show o + 1 + k = o + (k + 1) by omega]; exact this
theorem RVL_tr (ts : List Tree) (xs : List Value) : RVL h I σ ρ (ts.map .tr) xs ↔ RTL h I ts xs := by
  rw [RVL_iff, RTL_iff]
  simp only [List.length_map, List.getElem?_map]
  constructor
  · rintro ⟨e, s⟩
    refine ⟨e, fun k t hk => ?_⟩
    obtain ⟨x, hx, r⟩ := s k (.tr t) (by rw [hk]; rfl)
    exact ⟨x, hx, by simpa [RV] using r⟩
  · rintro ⟨e, s⟩
    refine ⟨e, fun k v hk => ?_⟩
    cases ht : ts[k]? with
    | none => rw [ht] at hk; cases hk
    | some t =>
      rw [ht] at hk
      simp only [Option.map_some, Option.some.injEq] at hk
      subst hk
      obtain ⟨x, hx, r⟩ := s k t ht
      exact ⟨x, hx, by simpa [RV] using r⟩
theorem allTr_eq : ∀ {vs : List V} {ts : List Tree}, allTr vs = some ts → vs = ts.map .tr
  | [], ts, e => by simp [allTr] at e; subst e; rfl
  | .tr t :: vs, ts, e => by
    simp only [allTr] at e
    cases h' : allTr vs with
    | none => rw [h'] at e; cases e
    | some us =>
      rw [h'] at e
      simp only [Option.some.injEq] at e
      subst e
      rw [allTr_eq h']; rfl
  | .agg _ :: _, ts, e => by simp [allTr] at e
  | .tup _ :: _, ts, e => by simp [allTr] at e
  | .own .. :: _, ts, e => by simp [allTr] at e
  | .ptr .. :: _, ts, e => by simp [allTr] at e
  | .fn .. :: _, ts, e => by simp [allTr] at e
  | .mp _ :: _, ts, e => by simp [allTr] at e
  | .iface .. :: _, ts, e => by simp [allTr] at e
theorem RV_mkAgg {cs : List V} {xs : List Value} (r : RVL h I σ ρ cs xs) : RV h I σ ρ (mkAgg cs) (.agg xs.toArray) := by
  unfold mkAgg
  cases e : allTr cs with
  | none => simp only [RV]; exact ⟨xs, rfl, r⟩
  | some ts =>
    rw [allTr_eq e, RVL_tr] at r
    simp only [RV, RT]
    exact ⟨xs, rfl, r⟩
theorem RV_mkTup {cs : List V} {xs : List Value} (r : RVL h I σ ρ cs xs) : RV h I σ ρ (mkTup cs) (.tuple xs.toArray) := by
  unfold mkTup
  cases e : allTr cs with
  | none => simp only [RV]; exact ⟨xs, rfl, r⟩
  | some ts =>
    rw [allTr_eq e, RVL_tr] at r
    simp only [RV, RT]
    exact ⟨xs, rfl, r⟩
theorem RVL_single {v : V} {x : Value} (r : RV h I σ ρ v x) : RVL h I σ ρ [v] [x] := by
  simp only [RVL]
  exact ⟨x, [], rfl, r, rfl⟩
theorem RV_sc {v x : Value} : RV h I σ ρ (.tr (.sc v)) x ↔ x = v := by simp [RV, RT]
theorem RVL_sc : ∀ (l : List Value), RVL h I σ ρ (l.map fun v => .tr (.sc v)) l
  | [] => by simp [RVL]
  | v :: l => by
    simp only [List.map_cons, RVL]
    exact ⟨v, l, rfl, RV_sc.2 rfl, RVL_sc l⟩
theorem RVL_cellsOf {v : V} {x : Value} (r : RV h I σ ρ v x) : RVL h I σ ρ (cellsOf v) x.cells.toList := by
  have one : (∀ cs, x ≠ .agg cs) → RVL h I σ ρ [v] x.cells.toList := by
    intro hx
    have : x.cells = #[x] := by cases x <;> first | rfl | exact absurd rfl (hx _)
    rw [this]
    exact RVL_single r
  cases v with
  | agg cs =>
    simp only [RV] at r
    obtain ⟨xs, rfl, r⟩ := r
    simpa [cellsOf, Value.cells] using r
  | tup vs => simp only [RV] at r; obtain ⟨xs, rfl, _⟩ := r; exact one (by simp)
  | own => simp only [RV] at r; obtain ⟨_, _, _, _, rfl, _⟩ := r; exact one (by simp)
  | ptr => simp only [RV] at r; obtain ⟨_, _, _, rfl, _⟩ := r; exact one (by simp)
  | fn => simp only [RV] at r; obtain ⟨_, _, rfl, _⟩ := r; exact one (by simp)
  | mp => simp only [RV] at r; obtain ⟨_, _, _, _, _, rfl⟩ := r; exact one (by simp)
  | iface => simp only [RV] at r; obtain ⟨_, rfl, _⟩ := r; exact one (by simp)
  | tr t =>
    cases t with
    | agg cs =>
      simp only [RV, RT] at r
      obtain ⟨xs, rfl, r⟩ := r
      simpa [cellsOf, Value.cells, RVL_tr] using r
    | sc v =>
      have := RV_sc.1 r
      subst this
      cases x <;> first
        | exact one (by simp)
        | (simp only [cellsOf, Value.cells]; exact RVL_sc _)
    | tup vs => simp only [RV, RT] at r; obtain ⟨xs, rfl, _⟩ := r; exact one (by simp)
    | row => simp only [RV, RT] at r; obtain ⟨_, _, rfl, _⟩ := r; exact one (by simp)
    | rptr => simp only [RV, RT] at r; obtain ⟨_, _, rfl, _⟩ := r; exact one (by simp)
    | fn => simp only [RV, RT] at r; obtain ⟨_, _, rfl, _⟩ := r; exact one (by simp)
    | iface => simp only [RV, RT] at r; obtain ⟨_, rfl, _⟩ := r; exact one (by simp)
theorem slice?_some {α : Type} {l r : List α} {off n : Nat} (e : slice? l off n = some r) : r.length = n ∧ ∀ k, k < n → r[k]? = l[off + k]? := by
  unfold slice? at e
  simp only at e
  split at e
  · rename_i hl
    simp only [Option.some.injEq] at e
    subst e
    refine ⟨hl, fun k hk => ?_⟩
    rw [List.getElem?_take, if_pos hk, List.getElem?_drop]
  · cases e
theorem ofCells_sound {agg : Bool} {cs : List V} {xs : List Value} {v : V} (e : ofCells agg cs = some v) (r : RVL h I σ ρ cs xs) :
    (agg = true ∧ RV h I σ ρ v (.agg xs.toArray)) ∨ (agg = false ∧ ∃ x, xs = [x] ∧ RV h I σ ρ v x) := by
  cases agg with
  | true =>
    simp only [ofCells, Option.some.injEq] at e
    subst e
    exact .inl ⟨rfl, RV_mkAgg r⟩
  | false =>
    right
    refine ⟨rfl, ?_⟩
    match cs, e with
    | [c], e =>
      simp only [ofCells, Option.some.injEq] at e
      subst e
      simp only [RVL] at r
      obtain ⟨y, ys, rfl, r, rfl⟩ := r
      exact ⟨y, rfl, r⟩
end
section
variable {n0 : Nat} {w0 : World} {I0 : Nat → Prop} {σ : Store} {ρ : Rho} {w : World}
theorem cellAt_of_arr {h : Array Go.Obj} {b o : Nat} {arr : Array Value} {e : TypeId} {fr : Nat × Nat} (h1 : h[b]? = some (.cells arr e fr)) : cellAt h b o = arr[o]? := by
  unfold cellAt; rw [h1]
theorem bsize_of_arr {h : Array Go.Obj} {b : Nat} {arr : Array Value} {e : TypeId} {fr : Nat × Nat} (h1 : h[b]? = some (.cells arr e fr)) : bsize h b = arr.size := by
  unfold bsize; rw [h1]
theorem obCells_sound (hI : Inv n0 w0 I0 σ ρ w) {id g b o : Nat} {cs : List V} (e : obCells σ id g = some cs) (hρ : ρ id = some (b, o)) :
    ∀ (k : Nat) c, cs[k]? = some c → ∃ y, cellAt w.heap b (o + k) = some y ∧ RV w.heap (Icur n0 I0 σ ρ w.heap) σ ρ c y := by
  unfold obCells at e
  cases hs : σ[id]? with
  | none => rw [hs] at e; cases e
  | some ob =>
    have hob := hI.obs id b o ob hρ hs
    rw [hs] at e
    cases ob with
    | row cs' g' =>
      simp only at e
      split at e
      · simp only [Option.some.injEq] at e
        subst e
        obtain ⟨arr, t, lo, hi, h1, _, _, r⟩ := hob
        intro k c hk
        obtain ⟨y, hy, hr⟩ := r k c hk
        exact ⟨y, (cellAt_of_arr h1).trans hy, hr⟩
      · cases e
    | fro ts g' =>
      simp only at e
      split at e
      · simp only [Option.some.injEq] at e
        subst e
        obtain ⟨_, r⟩ := hob
        intro k c hk
        rw [List.getElem?_map] at hk
        cases ht : ts[k]? with
        | none => rw [ht] at hk; cases hk
        | some t =>
          rw [ht] at hk
          simp only [Option.map_some, Option.some.injEq] at hk
          subst hk
          obtain ⟨y, hy, hr⟩ := (RTC_iff ts b o).1 r k t ht
          exact ⟨y, hy, by simpa [RV] using hr⟩
      · cases e
    | map es c => simp at e
theorem obCells_gen {id g : Nat} {cs : List V} (e : obCells σ id g = some cs) : ∃ ob, σ[id]? = some ob ∧ gen ob = g := by
  unfold obCells at e
  cases hs : σ[id]? with
  | none => rw [hs] at e; cases e
  | some ob =>
    rw [hs] at e
    cases ob with
    | row cs' g' =>
      simp only at e
      split at e
      · rename_i h; exact ⟨_, rfl, h.symm⟩
      · cases e
    | fro ts g' =>
      simp only at e
      split at e
      · rename_i h; exact ⟨_, rfl, h.symm⟩
      · cases e
    | map es c => simp at e
theorem read_cells {h : Array Go.Obj} {I : Nat → Prop} {b o : Nat} : ∀ (cs : List V) , (∀ (k : Nat) c, cs[k]? = some c → ∃ y, cellAt h b (o + k) = some y ∧ RV h I σ ρ c y) →
    ∃ ys : List Value, RVL h I σ ρ cs ys ∧ ys.length = cs.length ∧ ∀ (k : Nat) y, ys[k]? = some y → cellAt h b (o + k) = some y
  | [], _ => ⟨[], by simp [RVL], rfl, by simp⟩
  | c :: cs, r => by
    obtain ⟨y, hy, hr⟩ := r 0 c rfl
    obtain ⟨ys, h1, h2, h3⟩ := read_cells (b := b) (o := o + 1) cs (fun k c' hk => by
      obtain ⟨y, hy, hr⟩ := r (k + 1) c' (by simpa using hk)
      exact ⟨y, by rw [show o + 1 + k = o + (k + 1) by omega]; exact hy, hr⟩)
    refine ⟨y :: ys, ?_, by simp [h2], fun k z hk => ?_⟩
    · simp only [RVL]; exact ⟨y, ys, rfl, hr, h1⟩
    · cases k with
      | zero => simp at hk; subst hk; simpa using hy
      | succ k =>
        have := h3 k z (by simpa using hk)
        rw [show o + (k + 1) = o + 1 + k by omega]; exact this
end
end Go.Proofs.Ytodgdmhifbnofaa.AM
end
section
set_option linter.unusedSimpArgs false
set_option linter.unusedVariables false
set_option linter.unusedVariables false
set_option linter.unusedSimpArgs false
open Go.RowKit
namespace Go.Proofs.Ytodgdmhifbnofaa.AM
section
variable {P : Program} {n0 : Nat} {w0 : World} {I0 : Nat → Prop} {σ σ' : Store} {ρ : Rho} {w : World}
theorem upd_id {id : Nat} {p : Nat × Nat} (e : ρ id = some p) : upd ρ id p = ρ := by
  funext i
  unfold upd
  split
  · subst_vars; exact e.symm
  · rfl
theorem oneV_sound {h : Array Go.Obj} {I : Nat → Prop} {v : V} {x : Value} (o : oneV v = true) (r : RV h I σ ρ v x) : x.oneCell' = true := by
  cases v with
  | agg => simp [oneV] at o
  | tup => simp [oneV] at o
  | own => simp only [RV] at r; obtain ⟨_, _, _, _, rfl, _⟩ := r; rfl
  | ptr => simp only [RV] at r; obtain ⟨_, _, _, rfl, _⟩ := r; rfl
  | fn => simp only [RV] at r; obtain ⟨_, _, rfl, _⟩ := r; rfl
  | mp => simp only [RV] at r; obtain ⟨_, _, _, _, _, rfl⟩ := r; rfl
  | iface => simp only [RV] at r; obtain ⟨_, rfl, _⟩ := r; rfl
  | tr t =>
    cases t with
    | agg => simp [oneV] at o
    | tup => simp [oneV] at o
    | sc v =>
      have := RV_sc.1 r
      subst this
      cases x <;> first | rfl | (simp [oneV] at o)
    | row => simp only [RV, RT] at r; obtain ⟨_, _, rfl, _⟩ := r; rfl
    | rptr => simp only [RV, RT] at r; obtain ⟨_, _, rfl, _⟩ := r; rfl
    | fn => simp only [RV, RT] at r; obtain ⟨_, _, rfl, _⟩ := r; rfl
    | iface => simp only [RV, RT] at r; obtain ⟨_, rfl, _⟩ := r; rfl
theorem oneV_all {h : Array Go.Obj} {I : Nat → Prop} : ∀ {vs : List V} {xs : List Value}, vs.all oneV = true → RVL h I σ ρ vs xs → ∀ x ∈ xs, x.oneCell' = true
  | [], xs, _, r => by simp only [RVL] at r; subst r; simp
  | v :: vs, xs, o, r => by
    simp only [RVL] at r
    obtain ⟨y, ys, rfl, r, s⟩ := r
    simp only [List.all_cons, Bool.and_eq_true] at o
    intro x hx
    rcases List.mem_cons.1 hx with rfl | hx
    · exact oneV_sound o.1 r
    · exact oneV_all o.2 s x hx
theorem splice_length {l r : List V} {off : Nat} (h : off + r.length ≤ l.length) : (splice l off r).length = l.length := by
  unfold splice
  simp
  omega
theorem splice_get {l r : List V} {off k : Nat} (h : off + r.length ≤ l.length) :
    (splice l off r)[k]? = if off ≤ k ∧ k < off + r.length then r[k - off]? else l[k]? := by
  unfold splice
  rw [List.append_assoc, List.getElem?_append]
  simp only [List.length_take]
  have hm : min off l.length = off := by omega
  rw [hm]
  by_cases h1 : k < off
  · rw [if_pos h1, if_neg (by omega), List.getElem?_take, if_pos h1]
  · rw [if_neg h1, List.getElem?_append]
    by_cases h2 : k - off < r.length
    · rw [if_pos h2, if_pos (by omega)]
    · rw [if_neg h2, if_neg (by omega), List.getElem?_drop]
      congr 1
      omega
theorem set_self {l : Store} {id : Nat} {ob : Ob} (h : l[id]? = some ob) : l.set id ob = l := by
  apply List.ext_getElem?
  intro i
  rw [List.getElem?_set]
  by_cases hi : id = i
  · subst hi
    have : id < l.length := by
      rcases Nat.lt_or_ge id l.length with h1 | h1
      · exact h1
      · rw [List.getElem?_eq_none h1] at h; cases h
    simp only [if_true, this]
    exact h.symm
  · simp [hi]
theorem obPut_sound (hI : Inv n0 w0 I0 σ ρ w) {id g off b o : Nat} {r : List V} {ys : List Value} (e : obPut σ id g off r = some σ')
    (hρ : ρ id = some (b, o)) (hr : RVL w.heap (Icur n0 I0 σ ρ w.heap) σ ρ r ys) :
    ∃ w', (storeCells ⟨b, o + off, none⟩ ys).run P w = .ok () w' ∧ Inv n0 w0 I0 σ' ρ w' ∧ Evo n0 I0 σ ρ w.heap σ' ρ w'.heap := by
  unfold obPut at e
  cases hs : σ[id]? with
  | none => rw [hs] at e; cases e
  | some ob =>
    rw [hs] at e
    cases ob with
    | fro ts g' => cases e
    | map es c => cases e
    | row cs g' =>
      simp only at e
      split at e
      case isFalse => cases e
      case isTrue hc =>
        obtain ⟨rfl, hfit, hone⟩ := hc
        simp only [Option.some.injEq] at e
        have hob := hI.obs id b o _ hρ hs
        obtain ⟨arr, t, lo, hi, h1, h2, h3, hcells⟩ := hob
        have hlen : r.length = ys.length := ((RVL_iff r ys).1 hr).1
        have hrun := run_storeCells (P := P) ys (o + off) 0 w arr h1 (h2.imp (fun h => Nat.le_of_eq h.symm) (fun h => h)) (by omega) (oneV_all hone hr)
        by_cases hy : ys = []
        · subst hy
          have hr0 : r = [] := List.length_eq_zero_iff.1 hlen
          subst hr0
          have : σ' = σ := by
            rw [← e]
            have : splice cs off [] = cs := by unfold splice; simp
            rw [this]
            exact set_self hs
          subst this
          exact ⟨w, by rw [hrun]; simp, hI, Evo.refl⟩
        · refine ⟨_, hrun, ?_⟩
          rw [if_neg hy]
          have hb : b < w.heap.size := (hI.new id b o hρ).2.1
          have hid : id < σ.length := (hI.new id b o hρ).2.2
          have := hI.update (id := id) (b' := b) (o' := o) (ob' := .row (splice cs off r) g) (σ' := σ') (w' := World.wset w b (.cells (putArr arr (o + off + 0) ys) t (lo, hi)))
            (by rw [← e]; simp [hid]) (fun i hi => by rw [← e]; rw [List.getElem?_set]; simp [Ne.symm hi]) (by rw [← e]; simp)
            (wset_below hI.below _ (hI.new id b o hρ).1) (by rw [wset_size]; exact Nat.le_refl _) (by rw [wset_size]; exact hb)
            (.inl ⟨o, hρ⟩)
            (fun ob hob => by
              rw [hs] at hob
              cases hob
              refine ⟨⟨_, hρ⟩, by simp, Nat.le_refl _, rfl, fun _ => ⟨hρ, ?_⟩⟩
              rw [bsize_of_arr (wset_get w b _ hb), bsize_of_arr h1, putArr_size])
            (fun b' hb' hne => wset_other w b b' _ (fun h => hne o (h ▸ hρ)))
            (fun E => by
              rw [upd_id hρ] at E ⊢
              refine ⟨putArr arr (o + off + 0) ys, t, lo, hi, wset_get w b _ hb, by rw [putArr_size]; exact h2, ?_, fun k c hk => ?_⟩
              · rw [putArr_size, splice_length hfit]; exact h3
              · rw [splice_get hfit] at hk
                rw [putArr_get _ _ _ _ (by omega)]
                by_cases hin : off ≤ k ∧ k < off + r.length
                · rw [if_pos hin] at hk
                  rw [if_pos (by omega)]
                  obtain ⟨y, hy, hr⟩ := ((RVL_iff r ys).1 hr).2 _ _ hk
                  exact ⟨y, by rw [show o + k - (o + off + 0) = k - off by omega]; exact hy, RV_mono E _ _ hr⟩
                · rw [if_neg hin] at hk
                  rw [if_neg (by omega)]
                  obtain ⟨y, hy, hr⟩ := hcells k c hk
                  exact ⟨y, hy, RV_mono E _ _ hr⟩)
          rw [upd_id hρ] at this
          exact this
theorem opLoad_sound (hI : Inv n0 w0 I0 σ ρ w) {t : TypeId} {d : TypeDesc} {size : Nat} {a v : V} {av : Value}
    (hu : P.underlying t = some d) (hs : sizeOfT P t = some size) (h1 : isAggD d || decide (size = 1))
    (e : opLoad size (isAggD d) a σ = some v) (ra : RV w.heap (Icur n0 I0 σ ρ w.heap) σ ρ a av) :
    ∃ x, (Instr.loadAt t av).run P w = .ok x w ∧ RV w.heap (Icur n0 I0 σ ρ w.heap) σ ρ v x := by
  have fin : ∀ (b o : Nat) (cs : List V), cs.length = size → ofCells (isAggD d) cs = some v →
      (∀ (k : Nat) c, cs[k]? = some c → ∃ y, cellAt w.heap b (o + k) = some y ∧ RV w.heap (Icur n0 I0 σ ρ w.heap) σ ρ c y) →
      ∃ x, (loadVar t ⟨b, o, none⟩).run P w = .ok x w ∧ RV w.heap (Icur n0 I0 σ ρ w.heap) σ ρ v x := by
    intro b o cs hl ho hc
    obtain ⟨ys, r1, r2, r3⟩ := read_cells cs hc
    rcases ofCells_sound ho r1 with ⟨ha, r⟩ | ⟨ha, x, rfl, r⟩
    · exact ⟨_, run_loadVar_agg hu ha (by rw [r2, hl]; exact hs) r3, r⟩
    · exact ⟨x, run_loadVar_one hu ha (by simpa using r3 0 x rfl), r⟩
  cases a with
  | ptr id g off =>
    simp only [opLoad] at e
    cases hc : obCells σ id g with
    | none => rw [hc] at e; cases e
    | some cs =>
      rw [hc] at e
      simp only at e
      cases hsl : slice? cs off size with
      | none => rw [hsl] at e; cases e
      | some r =>
        rw [hsl] at e
        simp only at e
        simp only [RV] at ra
        obtain ⟨ob, a', hob, rfl, hg, r'⟩ := ra
        obtain ⟨ob2, hob2, hgen⟩ := obCells_gen hc
        rw [hob] at hob2
        cases hob2
        obtain ⟨b, o, hρ, rfl⟩ := r' hgen.symm
        obtain ⟨hl, hget⟩ := slice?_some hsl
        have := fin b (o + off) r hl e (fun k c hk => by
          have hk' : k < size := by
            rcases Nat.lt_or_ge k r.length with h | h
            · omega
            · rw [List.getElem?_eq_none h] at hk; cases hk
          rw [hget k hk'] at hk
          have := obCells_sound hI hc hρ _ _ hk
          rw [show o + off + k = o + (off + k) by omega]
          exact this)
        obtain ⟨x, hx, hr⟩ := this
        exact ⟨x, by simp only [Instr.loadAt, Instr.sureAddr, Sem.run_bind, Sem.run_pure, Result.andThen_ok]; exact hx, hr⟩
  | tr tt =>
    cases tt with
    | rptr cs off =>
      simp only [opLoad] at e
      cases hsl : slice? cs off size with
      | none => rw [hsl] at e; cases e
      | some r =>
        rw [hsl] at e
        simp only at e
        simp only [RV, RT] at ra
        obtain ⟨b, o, rfl, hb, rc⟩ := ra
        obtain ⟨hl, hget⟩ := slice?_some hsl
        have := fin b (o + off) (r.map .tr) (by simpa using hl) e (fun k c hk => by
          rw [List.getElem?_map] at hk
          cases hrk : r[k]? with
          | none => rw [hrk] at hk; cases hk
          | some tk =>
            rw [hrk] at hk
            simp only [Option.map_some, Option.some.injEq] at hk
            subst hk
            have hk' : k < size := by
              rcases Nat.lt_or_ge k r.length with h | h
              · omega
              · rw [List.getElem?_eq_none h] at hrk; cases hrk
            rw [hget k hk'] at hrk
            obtain ⟨y, hy, hr⟩ := (RTC_iff cs b o).1 rc _ _ hrk
            exact ⟨y, by rw [show o + off + k = o + (off + k) by omega]; exact hy, by simpa [RV] using hr⟩)
        obtain ⟨x, hx, hr⟩ := this
        exact ⟨x, by simp only [Instr.loadAt, Instr.sureAddr, Sem.run_bind, Sem.run_pure, Result.andThen_ok]; exact hx, hr⟩
    | _ => simp [opLoad] at e
  | _ => simp [opLoad] at e
theorem opStore_sound (hI : Inv n0 w0 I0 σ ρ w) {t : TypeId} {size : Nat} {a x : V} {av xv : Value}
    (hs : sizeOfT P t = some size) (e : opStore size a x σ = some σ')
    (ra : RV w.heap (Icur n0 I0 σ ρ w.heap) σ ρ a av) (rx : RV w.heap (Icur n0 I0 σ ρ w.heap) σ ρ x xv) :
    ∃ w', (Instr.storeAt t av xv).run P w = .ok () w' ∧ Inv n0 w0 I0 σ' ρ w' ∧ Evo n0 I0 σ ρ w.heap σ' ρ w'.heap := by
  cases a with
  | ptr id g off =>
    simp only [opStore] at e
    split at e
    case isFalse => cases e
    case isTrue hl =>
      simp only [RV] at ra
      obtain ⟨ob, a', hob, rfl, hg, r'⟩ := ra
      have hgen : g = gen ob := by
        unfold obPut at e
        rw [hob] at e
        cases ob with
        | row cs g' => simp only at e; split at e
                       · rename_i h; exact h.1
                       · cases e
        | fro => cases e
        | map => cases e
      obtain ⟨b, o, hρ, rfl⟩ := r' hgen
      have rc := RVL_cellsOf rx
      obtain ⟨w', hrun, h1, h2⟩ := obPut_sound (P := P) hI e hρ rc
      refine ⟨w', ?_, h1, h2⟩
      have hsz : xv.cells.size = size := by
        have := ((RVL_iff _ _).1 rc).1
        simp at this
        omega
      simp only [Instr.storeAt, Instr.sureAddr, Sem.run_bind, Sem.run_pure, Result.andThen_ok, storeVar, run_sizeOf' hs, hsz, ne_eq, not_true_eq_false, if_false]
      exact hrun
  | _ => simp [opStore] at e
end
end Go.Proofs.Ytodgdmhifbnofaa.AM
end
section
set_option linter.unusedSimpArgs false
set_option linter.unusedVariables false
set_option linter.unusedVariables false
set_option linter.unusedSimpArgs false
open Go.RowKit
namespace Go.Proofs.Ytodgdmhifbnofaa.AM
theorem rep_length {α : Type} (l : List α) : ∀ n, (rep n l).length = n * l.length
  | 0 => by simp [rep]
  | n + 1 => by rw [rep, List.length_append, rep_length l n, Nat.succ_mul, Nat.add_comm]
theorem rep_get {α : Type} (l : List α) : ∀ n k, k < n * l.length → (rep n l)[k]? = l[k % l.length]?
  | 0, k, h => by simp at h
  | n + 1, k, h => by
    rw [rep, List.getElem?_append]
    by_cases h1 : k < l.length
    · rw [if_pos h1, Nat.mod_eq_of_lt h1]
    · rw [if_neg h1, rep_get l n (k - l.length) (by rw [Nat.succ_mul] at h; omega)]
      congr 1
      rw [Nat.mod_eq_sub_mod (by omega : k ≥ l.length)]
theorem rep_map {α β : Type} (f : α → β) (l : List α) : ∀ n, (rep n l).map f = rep n (l.map f)
  | 0 => rfl
  | n + 1 => by rw [rep, rep, List.map_append, rep_map f l n]
theorem zeros_eq (z : Array Value) (n : Nat) : ((Array.range (n * z.size)).map (z[· % z.size]!)) = (rep n z.toList).toArray := by
  apply Array.ext_getElem?
  intro k
  rw [Array.getElem?_map]
  by_cases hk : k < n * z.size
  · have h0 : 0 < z.size := by
      rcases Nat.eq_zero_or_pos z.size with h | h
      · rw [h] at hk; simp at hk
      · exact h
    have hm : k % z.size < z.size := Nat.mod_lt _ h0
    rw [Array.getElem?_eq_getElem (by simpa using hk)]
    simp only [Array.getElem_range, Option.map_some]
    rw [List.getElem?_toArray, rep_get _ _ _ (by simpa using hk)]
    simp only [Array.length_toList]
    rw [getElem!_pos z (k % z.size) hm, Array.getElem?_toList, Array.getElem?_eq_getElem hm]
  · rw [Array.getElem?_eq_none (by simp; omega), Array.getElem?_eq_none (by simp [rep_length]; omega)]
    rfl
theorem foldl_put : ∀ (vs : List Value) (off j : Nat) (cs : Array Value),
    (vs.zipIdx j).foldl (fun cs (x : Value × Nat) => cs.setIfInBounds (off + x.2) x.1) cs = putArr cs (off + j) vs
  | [], off, j, cs => rfl
  | v :: vs, off, j, cs => by
    rw [List.zipIdx_cons, List.foldl_cons, foldl_put vs off (j + 1), putArr]
    rfl
theorem fill_step (cells : Array Value) (v : Value) (off : Nat) :
    v.cells.zipIdx.foldl (fun cs (c, j) => cs.setIfInBounds (off + j) c) cells = putArr cells off v.cells.toList := by
  have := foldl_put v.cells.toList off 0 cells
  rw [Nat.add_zero] at this
  rw [← this]
  rw [← Array.foldl_toList]
  congr 1
  simp
section
variable {P : Program} {n0 : Nat} {w0 : World} {I0 : Nat → Prop} {σ σ' : Store} {ρ : Rho} {w w' : World}
variable {h : Array Go.Obj} {I : Nat → Prop}
theorem RVL_append {a b : List V} {xs ys : List Value} (r : RVL h I σ ρ a xs) (s : RVL h I σ ρ b ys) : RVL h I σ ρ (a ++ b) (xs ++ ys) := by
  rw [RVL_iff] at *
  refine ⟨by simp [r.1, s.1], fun k v hk => ?_⟩
  rw [List.getElem?_append] at hk ⊢
  split at hk
  · rename_i hl
    rw [if_pos (by rw [← r.1]; exact hl)]
    exact r.2 k v hk
  · rename_i hl
    rw [if_neg (by rw [← r.1]; exact hl), ← r.1]
    exact s.2 _ v hk
theorem RVL_rep {l : List V} {xs : List Value} (r : RVL h I σ ρ l xs) : ∀ n, RVL h I σ ρ (rep n l) (rep n xs)
  | 0 => by simp [rep, RVL]
  | n + 1 => RVL_append r (RVL_rep r n)
theorem RVL_length {a : List V} {xs : List Value} (r : RVL h I σ ρ a xs) : a.length = xs.length := ((RVL_iff a xs).1 r).1
theorem RVL_get {a : List V} {xs : List Value} (r : RVL h I σ ρ a xs) {k : Nat} {v : V} (e : a[k]? = some v) : ∃ x, xs[k]? = some x ∧ RV h I σ ρ v x := ((RVL_iff a xs).1 r).2 k v e
theorem RVL_splice {cs r : List V} {xs ys : List Value} {off : Nat} (hf : off + r.length ≤ cs.length) (rc : RVL h I σ ρ cs xs) (rr : RVL h I σ ρ r ys) :
    RVL h I σ ρ (splice cs off r) (putArr xs.toArray off ys).toList := by
  rw [RVL_iff]
  have h1 := RVL_length rc
  have h2 := RVL_length rr
  refine ⟨?_, fun k v hk => ?_⟩
  · rw [splice_length hf, h1]
    have := putArr_size ys xs.toArray off
    simpa using this.symm
  · rw [splice_get hf] at hk
    rw [Array.getElem?_toList, putArr_get _ _ _ _ (by simp; omega)]
    by_cases hin : off ≤ k ∧ k < off + r.length
    · rw [if_pos hin] at hk
      rw [if_pos (by omega)]
      exact RVL_get rr hk
    · rw [if_neg hin] at hk
      rw [if_neg (by omega), List.getElem?_toArray]
      exact RVL_get rc hk
theorem fill_sound (place : Nat → Option (Nat × Nat)) : ∀ (ps : List (Nat × Nat × V)) (qs : List (Nat × Value)) (cs cs' : List V) (xs : List Value),
    RVL h I σ ρ cs xs → fillV cs ps = some cs' → ps.length = qs.length →
    (∀ (k : Nat) p, ps[k]? = some p → ∃ q, qs[k]? = some q ∧ place q.1 = some (p.1, p.2.1) ∧ RV h I σ ρ p.2.2 q.2) →
    ∃ ys : List Value, Instr.fill place xs.toArray qs = some ys.toArray ∧ RVL h I σ ρ cs' ys
  | [], qs, cs, cs', xs, rc, e, hl, _ => by
    have : qs = [] := List.length_eq_zero_iff.1 hl.symm
    subst this
    simp only [fillV, Option.some.injEq] at e
    subst e
    exact ⟨xs, rfl, rc⟩
  | (off, size, v) :: ps, qs, cs, cs', xs, rc, e, hl, hp => by
    cases qs with
    | nil => simp at hl
    | cons q qs =>
      obtain ⟨q', hq', hpl, rv⟩ := hp 0 _ rfl
      simp at hq'
      subst hq'
      obtain ⟨i, qv⟩ := q
      simp only [fillV] at e
      split at e
      case isFalse => cases e
      case isTrue h1 =>
        split at e
        case isFalse => cases e
        case isTrue h2 =>
          have rcell : RVL h I σ ρ (cellsOf v) qv.cells.toList := RVL_cellsOf rv
          have hlen := RVL_length rcell
          have hx := RVL_length rc
          simp only [Array.length_toList] at hlen
          obtain ⟨ys, hy, ry⟩ := fill_sound place ps qs _ cs' (putArr xs.toArray off qv.cells.toList).toList (RVL_splice (by omega) rc rcell) e (by simpa using hl)
            (fun k p hk => hp (k + 1) p (by simpa using hk))
          refine ⟨ys, ?_, ry⟩
          rw [Instr.fill]
          simp only [hpl]
          rw [if_neg (by simp; omega), fill_step]
          simpa using hy
theorem alloc_row (hI : Inv n0 w0 I0 σ ρ w) {arr : Array Value} {t : TypeId} {lo hi : Nat} {cs : List V} {g : Nat}
    (hw : w'.heap = w.heap.push (.cells arr t (lo, hi))) (hbel : Below n0 w0 w') (hf : lo = hi ∨ arr.size ≤ lo) (hfit : cs.length ≤ arr.size)
    (hc : ∀ (k : Nat) c, cs[k]? = some c → ∃ y, arr[k]? = some y ∧ RV w.heap (Icur n0 I0 σ ρ w.heap) σ ρ c y) :
    Inv n0 w0 I0 (σ ++ [.row cs g]) (upd ρ σ.length (w.heap.size, 0)) w' ∧ Evo n0 I0 σ ρ w.heap (σ ++ [.row cs g]) (upd ρ σ.length (w.heap.size, 0)) w'.heap := by
  refine hI.alloc hw hbel (fun E => ⟨arr, t, lo, hi, by rw [hw]; simp, hf, by omega, fun k c hk => ?_⟩)
  obtain ⟨y, hy, hr⟩ := hc k c hk
  exact ⟨y, by simpa using hy, RV_mono E _ _ hr⟩
theorem alloc_below (hI : Inv n0 w0 I0 σ ρ w) (o : Go.Obj) : Below n0 w0 { w with heap := w.heap.push o } :=
  hI.below.alloc hI.n0_le o
def Post (n0 : Nat) (w0 : World) (I0 : Nat → Prop) (σ : Store) (ρ : Rho) (w : World) (v : V) (σ' : Store) (x : Value) (w' : World) : Prop :=
  ∃ ρ', Inv n0 w0 I0 σ' ρ' w' ∧ Evo n0 I0 σ ρ w.heap σ' ρ' w'.heap ∧ RV w'.heap (Icur n0 I0 σ' ρ' w'.heap) σ' ρ' v x
theorem Post.same (hI : Inv n0 w0 I0 σ ρ w) {v : V} {x : Value} (r : RV w.heap (Icur n0 I0 σ ρ w.heap) σ ρ v x) : Post n0 w0 I0 σ ρ w v σ x w :=
  ⟨ρ, hI, Evo.refl, r⟩
theorem ptr_new {v : Nat} (cs : List V) (g : Nat) (σ : Store) (ρ : Rho) (b : Nat) : RV h I (σ ++ [.row cs g]) (upd ρ σ.length (b, 0)) (.ptr σ.length g 0) (.pointer (some ⟨b, 0, none⟩)) := by
  simp only [RV]
  exact ⟨.row cs g, _, by simp, rfl, Nat.le_refl _, fun _ => ⟨b, 0, upd_same _ _ _, rfl⟩⟩
theorem own_new (cs : List V) (g : Nat) (σ : Store) (ρ : Rho) (b len sz c : Nat) (cap : Option Nat) (hl : len ≤ c) (hc : ∀ k, cap = some k → c = k) (hn : cap = none → c * sz = bsize h b) (hs : c = 0 ∨ c * sz ≤ bsize h b) :
    RV h I (σ ++ [.row cs g]) (upd ρ σ.length (b, 0)) (.own σ.length g 0 len sz cap) (.slice (some ⟨b, 0, none⟩) len c) := by
  simp only [RV]
  exact ⟨.row cs g, _, c, by simp, rfl, Nat.le_refl _, fun _ => ⟨b, 0, upd_same _ _ _, hl, hc, fun hh => by have := hn hh; omega, hs.imp id fun h => ⟨rfl, by omega⟩⟩⟩
theorem opBox_sound (hI : Inv n0 w0 I0 σ ρ w) {t : TypeId} {v v' : V} {x : Value} (e : opBox v σ = some (v', σ')) (r : RV w.heap (Icur n0 I0 σ ρ w.heap) σ ρ v x) :
    ∃ y w', (Instr.box t x).run P w = .ok y w' ∧ Post n0 w0 I0 σ ρ w v' σ' y w' := by
  simp only [opBox, Option.some.injEq, Prod.mk.injEq] at e
  obtain ⟨rfl, rfl⟩ := e
  have rc := RVL_cellsOf r
  have hl := RVL_length rc
  refine ⟨.pointer (some ⟨w.heap.size, 0, none⟩), { w with heap := w.heap.push (.cells x.cells t) }, ?_, ?_⟩
  · simp [Instr.box, newVar, newRow]
  · obtain ⟨h1, h2⟩ := alloc_row (g := 0) hI (w' := { w with heap := w.heap.push (.cells x.cells t) }) rfl (alloc_below hI _) (.inl rfl) (by simpa using Nat.le_of_eq hl) (fun k c hk => by
      obtain ⟨y, hy, hr⟩ := RVL_get rc hk
      exact ⟨y, by simpa using hy, hr⟩)
    exact ⟨_, h1, h2, ptr_new (v := 0) _ _ _ _ _⟩
theorem opAlloc_sound (hI : Inv n0 w0 I0 σ ρ w) {t : TypeId} {z : List Tree} {v' : V} (hz : zeroOf P t = some z) (e : opAlloc z σ = some (v', σ')) :
    ∃ y w', (Instr.alloc t true (.tuple #[])).run P w = .ok y w' ∧ Post n0 w0 I0 σ ρ w v' σ' y w' := by
  simp only [opAlloc, Option.some.injEq, Prod.mk.injEq] at e
  obtain ⟨rfl, rfl⟩ := e
  obtain ⟨i, v, hi, hv, rfl⟩ := zero_of hz
  refine ⟨.pointer (some ⟨w.heap.size, 0, none⟩), { w with heap := w.heap.push (.cells v.cells t) }, ?_, ?_⟩
  · simp [Instr.alloc, run_zeroValue' hi hv, newVar, newRow]
  · obtain ⟨h1, h2⟩ := alloc_row (g := 0) (cs := (v.cells.toList.map Tree.sc).map V.tr) hI (w' := { w with heap := w.heap.push (.cells v.cells t) }) rfl (alloc_below hI _) (.inl rfl) (by simp) (fun k c hk => by
      simp only [List.map_map, List.getElem?_map] at hk
      cases hc : v.cells.toList[k]? with
      | none => rw [hc] at hk; cases hk
      | some y =>
        rw [hc] at hk
        simp only [Option.map_some, Option.some.injEq] at hk
        subst hk
        exact ⟨y, by simpa using hc, RV_sc.2 rfl⟩)
    exact ⟨_, h1, h2, ptr_new (v := 0) _ _ _ _ _⟩
end
end Go.Proofs.Ytodgdmhifbnofaa.AM
end
section
set_option linter.unusedSimpArgs false
set_option linter.unusedVariables false
set_option linter.unusedVariables false
set_option linter.unusedSimpArgs false
open Go.RowKit
namespace Go.Proofs.Ytodgdmhifbnofaa.AM
section
variable {P : Program} {n0 : Nat} {w0 : World} {I0 : Nat → Prop} {σ σ' : Store} {ρ : Rho} {w w' : World}
variable {h : Array Go.Obj} {I : Nat → Prop}
theorem RVL_take {a : List V} {xs : List Value} (r : RVL h I σ ρ a xs) (m : Nat) : RVL h I σ ρ (a.take m) (xs.take m) := by
  rw [RVL_iff] at *
  refine ⟨by simp [r.1], fun k v hk => ?_⟩
  rw [List.getElem?_take] at hk ⊢
  split at hk
  · rename_i hlt
    rw [if_pos hlt]
    exact r.2 k v hk
  · cases hk
theorem run_loadCells_n {b o n : Nat} {ys : List Value} (hl : ys.length = n) (h : ∀ (k : Nat) y, ys[k]? = some y → cellAt w.heap b (o + k) = some y) :
    (loadCells ⟨b, o, none⟩ n).run P w = .ok ys.toArray w := by
  subst hl
  exact run_loadCells h
theorem elems_sound (hI : Inv n0 w0 I0 σ ρ w) {size n : Nat} {x : V} {xv : Value} {cs : List V} (e : elems σ size x = some (cs, n))
    (r : RV w.heap (Icur n0 I0 σ ρ w.heap) σ ρ x xv) :
    ∃ ys : List Value, RVL w.heap (Icur n0 I0 σ ρ w.heap) σ ρ cs ys ∧ cs.length = n * size ∧ (Builtin.lenOf xv).run P w = .ok n w ∧
      ∀ m, m ≤ n → (Builtin.firstCells size m xv).run P w = .ok (ys.take (m * size)).toArray w := by
  have fin : ∀ (b o : Nat) (cs : List V), cs.length = n * size →
      (∀ (k : Nat) c, cs[k]? = some c → ∃ y, cellAt w.heap b (o + k) = some y ∧ RV w.heap (Icur n0 I0 σ ρ w.heap) σ ρ c y) →
      ∃ ys : List Value, RVL w.heap (Icur n0 I0 σ ρ w.heap) σ ρ cs ys ∧ ∀ m, m ≤ n → (loadCells ⟨b, o, none⟩ (m * size)).run P w = .ok (ys.take (m * size)).toArray w := by
    intro b o cs hl hc
    obtain ⟨ys, r1, r2, r3⟩ := read_cells cs hc
    refine ⟨ys, r1, fun m hm => run_loadCells_n ?_ fun k y hk => ?_⟩
    · rw [List.length_take, r2, hl]
      have := Nat.mul_le_mul_right size hm
      omega
    · rw [List.getElem?_take] at hk
      split at hk
      · exact r3 k y hk
      · cases hk
  cases x with
  | own id g off len sz cap =>
    simp only [elems] at e
    split at e
    case isFalse => cases e
    case isTrue hsz =>
      subst hsz
      cases hc : obCells σ id g with
      | none => rw [hc] at e; cases e
      | some cells =>
        rw [hc] at e
        simp only at e
        cases hsl : slice? cells off (len * sz) with
        | none => rw [hsl] at e; cases e
        | some rr =>
          rw [hsl] at e
          simp only [Option.some.injEq, Prod.mk.injEq] at e
          obtain ⟨rfl, rfl⟩ := e
          simp only [RV] at r
          obtain ⟨ob, a, c, hob, rfl, hg, r'⟩ := r
          obtain ⟨ob2, hob2, hgen⟩ := obCells_gen hc
          rw [hob] at hob2
          cases hob2
          obtain ⟨b, o, hρ, hlc, hcap, _, hpl⟩ := r' hgen.symm
          obtain ⟨hl, hget⟩ := slice?_some hsl
          rcases hpl with rfl | ⟨rfl, hb⟩
          · have : len = 0 := by omega
            subst this
            have : rr = [] := List.length_eq_zero_iff.1 (by simpa using hl)
            subst this
            exact ⟨[], by simp [RVL], by simp, by simp [Builtin.lenOf], fun m hm => by
              have : m = 0 := by omega
              subst this
              simp [Builtin.firstCells, loadCells, loadCellsFrom]⟩
          · obtain ⟨ys, h1, h2⟩ := fin b (o + off) rr hl (fun k c' hk => by
              have hk' : k < len * sz := by
                rcases Nat.lt_or_ge k rr.length with h | h
                · omega
                · rw [List.getElem?_eq_none h] at hk; cases hk
              rw [hget k hk'] at hk
              have := obCells_sound hI hc hρ _ _ hk
              rw [show o + off + k = o + (off + k) by omega]
              exact this)
            exact ⟨ys, h1, hl, by simp [Builtin.lenOf], fun m hm => by simpa [Builtin.firstCells] using h2 m hm⟩
  | tr t =>
    cases t with
    | row ts n' cap =>
      simp only [elems] at e
      split at e
      case isFalse => cases e
      case isTrue hl =>
        simp only [Option.some.injEq, Prod.mk.injEq] at e
        obtain ⟨rfl, rfl⟩ := e
        simp only [RV, RT] at r
        obtain ⟨a, c, rfl, hn, hcap, hpl⟩ := r
        rcases hpl with rfl | ⟨b, o, rfl, hIb, rc⟩
        · refine ⟨[], by simp [RVL], by simpa using hl, by simp [Builtin.lenOf], fun m hm => ?_⟩
          have h0 : n' * size = 0 := by simpa using hl.symm
          have : m * size = 0 := by
            have := Nat.mul_le_mul_right size hm
            omega
          simp [Builtin.firstCells, this, loadCells, loadCellsFrom]
        · obtain ⟨ys, h1, h2⟩ := fin b o (ts.map .tr) (by simpa using hl) (fun k c' hk => by
            rw [List.getElem?_map] at hk
            cases hrk : ts[k]? with
            | none => rw [hrk] at hk; cases hk
            | some tk =>
              rw [hrk] at hk
              simp only [Option.map_some, Option.some.injEq] at hk
              subst hk
              obtain ⟨y, hy, hr⟩ := (RTC_iff ts b o).1 rc _ _ hrk
              exact ⟨y, hy, by simpa [RV] using hr⟩)
          exact ⟨ys, h1, by simpa using hl, by simp [Builtin.lenOf], fun m hm => by simpa [Builtin.firstCells] using h2 m hm⟩
    | sc v =>
      have := RV_sc.1 r
      subst this
      unfold elems at e
      split at e
      · rename_i heq
        simp only [Option.some.injEq, Prod.mk.injEq] at e
        obtain ⟨rfl, rfl⟩ := e
        cases heq
        exact ⟨[], by simp [RVL], by simp, by simp [Builtin.lenOf], fun m hm => by simp [Builtin.firstCells]⟩
      · rename_i heq; cases heq
      · rename_i s heq
        cases heq
        split at e
        case isFalse => cases e
        case isTrue hsz =>
          subst hsz
          simp only [Option.some.injEq, Prod.mk.injEq] at e
          obtain ⟨rfl, rfl⟩ := e
          refine ⟨s.data.toList.map fun b => .int .u8 b.toNat, ?_, by simp, by simp only [Builtin.lenOf, Sem.run_pure]; rfl, fun m hm => ?_⟩
          · have := RVL_sc (h := w.heap) (I := Icur n0 I0 σ ρ w.heap) (σ := σ) (ρ := ρ) (s.data.toList.map fun b => Value.int .u8 b.toNat)
            rw [List.map_map] at this
            exact this
          · simp only [Builtin.firstCells, Sem.run_pure, Nat.mul_one]
            congr 1
            apply Array.ext'
            simp [ByteArray.data_extract, ← List.map_take]
      · rename_i heq; cases heq
      · cases e
    | _ => simp [elems] at e
  | _ => simp [elems] at e
end
end Go.Proofs.Ytodgdmhifbnofaa.AM
end
section
set_option linter.unusedSimpArgs false
set_option linter.unusedVariables false
set_option linter.unusedVariables false
set_option linter.unusedSimpArgs false
open Go.RowKit
namespace Go.Proofs.Ytodgdmhifbnofaa.AM
theorem growBy_le (N : Nat) : ∀ (r c : Nat), c ≤ N + N / 4 + 192 → Builtin.growBy N r c ≤ N + N / 4 + 192
  | 0, c, h => by simpa [Builtin.growBy] using h
  | r + 1, c, h => by
    rw [Builtin.growBy]
    split
    · exact h
    · exact growBy_le N r _ (by omega)
theorem nextslicecap_le (need old : Nat) (h : old < need) : Builtin.nextslicecap need old ≤ 2 * need + 200 := by
  unfold Builtin.nextslicecap
  split
  · omega
  · split
    · omega
    · have := growBy_le need 4 old (by omega)
      omega
theorem room_le {n bytes : Nat} (h : room n bytes = true) : n * (bytes + 1) ≤ 2 ^ 38 := by
  unfold room at h
  exact Nat.le_of_ble_eq_true h
theorem room_bytes {n bytes : Nat} (h : room n bytes = true) (hn : n ≠ 0) : bytes ≤ 2 ^ 38 := by
  have h1 := room_le h
  have : 1 * (bytes + 1) ≤ n * (bytes + 1) := Nat.mul_le_mul_right _ (by omega)
  omega
theorem room_n {n bytes : Nat} (h : room n bytes = true) : n ≤ 2 ^ 38 := by
  have h1 := room_le h
  have : n * 1 ≤ n * (bytes + 1) := Nat.mul_le_mul_left _ (by omega)
  omega
theorem room_nb {n bytes : Nat} (h : room n bytes = true) : n * bytes ≤ 2 ^ 38 := by
  have h1 := room_le h
  rw [Nat.mul_succ] at h1
  omega
theorem nextcap_bytes {need old bytes a b : Nat} (hlt : old < need) (hn : need = a + b) (hb : b ≠ 0) (h1 : room a bytes = true) (h2 : room b bytes = true) :
    ¬ (Builtin.nextslicecap need old * bytes > 2 ^ 48) := by
  have h3 := nextslicecap_le need old hlt
  have h4 := Nat.mul_le_mul_right bytes h3
  have h5 := room_nb h1
  have h6 := room_nb h2
  have h7 := room_bytes h2 hb
  have h8 : (2 * need + 200) * bytes = 2 * (a * bytes) + 2 * (b * bytes) + 200 * bytes := by
    subst hn
    rw [Nat.add_mul, Nat.mul_assoc, Nat.add_mul, Nat.mul_add]
  omega
section
variable {P : Program} {w : World}
theorem run_append_grow {t u ty elem : TypeId} {d : TypeDesc} {size n bytes sLen sCap : Nat} {z : List Tree} {base : Option Addr} {xv : Value} {old new : List Value}
    (ht : P.underlying t = some (.slice elem)) (hu : P.underlying u = some d) (hd : ∀ k, d ≠ .int k) (hs : sizeOfT P elem = some size) (hb : bytesOfT P elem = some bytes)
    (hz : zeroOf P elem = some z) (hzl : z.length = size) (hn0 : n ≠ 0) (r1 : room sLen bytes = true) (r2 : room n bytes = true) (hlt : sCap < sLen + n)
    (hl : (Builtin.lenOf xv).run P w = .ok n w)
    (hold : (Builtin.firstCells size sLen (.slice base sLen sCap)).run P w.drew = .ok old.toArray w.drew)
    (hnew : (Builtin.firstCells size n xv).run P w.drew = .ok new.toArray w.drew)
    (lo : old.length = sLen * size) (ln : new.length = n * size) :
    ∃ newCap rest, sLen + n ≤ newCap ∧ (old ++ new ++ rest).length = newCap * size ∧
      (Builtin.append_ #[t, u] ty #[.slice base sLen sCap, xv]).run P w =
        .ok (.slice (some ⟨w.heap.size, 0, none⟩) (sLen + n) newCap) { w.drew with heap := w.heap.push (.cells (old ++ new ++ rest).toArray elem) } := by
  obtain ⟨i, hi, hib⟩ := bytes_of hb
  obtain ⟨i', v, hi', hv, rfl⟩ := zero_of hz
  rw [hi] at hi'
  cases hi'
  have hnot : (match d with | .int _ => true | _ => false) = false := by
    cases d <;> first | rfl | exact absurd rfl (hd _)
  have hcap := nextcap_bytes (need := sLen + n) (old := sCap) hlt rfl hn0 r1 r2
  have hbig : ¬ (((sLen + n : Nat) : Int) > IntKind.i64.max ∧ (false = true ∨ i.bytes = 0)) := by
    rintro ⟨h1, _⟩
    have := room_n r1
    have := room_n r2
    rw [IntKind.max_i64] at h1
    omega
  let newCap := (Question.appendCap (sLen + n) sCap elem).cut (w.tape w.drawn (.appendCap (sLen + n) sCap elem))
  have hge : sLen + n ≤ newCap := by
    show sLen + n ≤ (sLen + n) + _
    omega
  refine ⟨newCap, (Builtin.zeroCells v.cells (newCap - (sLen + n))).toList, hge, ?_, ?_⟩
  · simp only [List.length_append, lo, ln, Builtin.zeroCells, Array.length_toList, Array.size_map, Array.size_range]
    have : v.cells.size = size := by simpa using hzl
    rw [this, ← Nat.add_mul, ← Nat.add_mul]
    congr 1
    omega
  · unfold Builtin.append_
    simp only [List.getElem?_toArray, List.getElem?_cons_zero, List.getElem?_cons_succ, Sem.run_bind, run_underlying ht, run_underlying hu, Result.andThen_ok, run_sizeOf' hs, Sem.run_pure,
      Bool.false_eq_true, if_false, hl, if_neg (by omega : ¬ sLen + n ≤ sCap), run_typeInfo' hi, hib, Bool.not_false, if_true, false_or]
    rw [if_neg (by rintro ⟨h1, h2⟩; exact hbig ⟨h1, .inr (hib.trans h2)⟩)]
    simp only [Sem.run_bind, run_typeInfo' hi, Result.andThen_ok, hib]
    rw [if_neg hcap]
    simp only [Sem.run_bind, run_choose, Question.forced, Bool.false_eq_true, if_false, run_typeInfo' hi, Result.andThen_ok, run_askRoom]
    have hd' : ({ w with drawn := w.drawn + 1 } : World) = w.drew := rfl
    rw [hd', hold]
    simp only [Result.andThen_ok]
    rw [hnew]
    simp only [Result.andThen_ok, run_zeroValue' hi hv, newRow, Sem.run_bind, run_newObj, Sem.run_pure]
    have ha : old.toArray ++ new.toArray ++ Builtin.zeroCells v.cells (newCap - (sLen + n)) = (old ++ new ++ (Builtin.zeroCells v.cells (newCap - (sLen + n))).toList).toArray := by simp
    rw [← ha]
    rfl
theorem run_append_in {t u ty elem : TypeId} {d : TypeDesc} {size n sLen sCap : Nat} {base : Option Addr} {xv : Value} {new : List Value} {w' : World}
    (ht : P.underlying t = some (.slice elem)) (hu : P.underlying u = some d) (hd : ∀ k, d ≠ .int k) (hs : sizeOfT P elem = some size)
    (hle : sLen + n ≤ sCap) (hl : (Builtin.lenOf xv).run P w = .ok n w)
    (hnew : (Builtin.firstCells size n xv).run P w = .ok new.toArray w)
    (hst : match base with | some a => (storeCells (a.add (sLen * size)) new).run P w = .ok () w' | none => w' = w) :
    (Builtin.append_ #[t, u] ty #[.slice base sLen sCap, xv]).run P w = .ok (.slice base (sLen + n) sCap) w' := by
  have hnot : (match d with | .int _ => true | _ => false) = false := by
    cases d <;> first | rfl | exact absurd rfl (hd _)
  unfold Builtin.append_
  simp only [List.getElem?_toArray, List.getElem?_cons_zero, List.getElem?_cons_succ, Sem.run_bind, run_underlying ht, run_underlying hu, Result.andThen_ok, run_sizeOf' hs, Sem.run_pure,
      Bool.false_eq_true, if_false, hl, if_pos hle, Bool.not_false, if_true, hnew]
  cases base with
  | none =>
    simp only at hst
    subst hst
    simp
  | some a =>
    simp only at hst
    simp only [Sem.run_bind]
    rw [hst]
    simp
end
end Go.Proofs.Ytodgdmhifbnofaa.AM
end
section
set_option linter.unusedSimpArgs false
set_option linter.unusedVariables false
set_option linter.unusedVariables false
set_option linter.unusedSimpArgs false
open Go.RowKit
namespace Go.Proofs.Ytodgdmhifbnofaa.AM
section
variable {P : Program} {n0 : Nat} {w0 : World} {I0 : Nat → Prop} {σ σ' : Store} {ρ : Rho} {w w' : World}
theorem RVL_drop {h : Array Go.Obj} {I : Nat → Prop} {a : List V} {xs : List Value} (r : RVL h I σ ρ a xs) (m : Nat) : RVL h I σ ρ (a.drop m) (xs.drop m) := by
  rw [RVL_iff] at *
  refine ⟨by simp [r.1], fun k v hk => ?_⟩
  rw [List.getElem?_drop] at hk ⊢
  exact r.2 _ v hk
theorem own_parts {h : Array Go.Obj} {I : Nat → Prop} {id g off len sz : Nat} {cap : Option Nat} {xv : Value} {ob : Ob}
    (r : RV h I σ ρ (.own id g off len sz cap) xv) (hs : σ[id]? = some ob) (hg : gen ob = g) :
    ∃ a c b o, xv = .slice (some a) len c ∧ ρ id = some (b, o) ∧ len ≤ c ∧ (∀ k, cap = some k → c = k) ∧ (cap = none → o + off + c * sz = bsize h b) ∧
      (c = 0 ∨ (a = ⟨b, o + off, none⟩ ∧ o + off + c * sz ≤ bsize h b)) := by
  simp only [RV] at r
  obtain ⟨ob', a, c, hob, rfl, _, r'⟩ := r
  rw [hs] at hob
  cases hob
  obtain ⟨b, o, h1, h2, h3, h4, h5⟩ := r' hg.symm
  exact ⟨a, c, b, o, rfl, h1, h2, h3, h4, h5⟩
theorem slice?_elems {id g off len sz : Nat} {cap : Option Nat} {cs r : List V} (hs : σ[id]? = some (.row cs g)) (e : slice? cs off (len * sz) = some r) :
    elems σ sz (.own id g off len sz cap) = some (r, len) := by
  simp only [elems, if_true, obCells, hs, e]
theorem append_grow_new (hI : Inv n0 w0 I0 σ ρ w) {t u ty elem : TypeId} {d : TypeDesc} {size n bytes len sCap : Nat} {z : List Tree} {base : Option Addr} {s x : V} {xv : Value} {old xs : List V}
    (ht : P.underlying t = some (.slice elem)) (hu : P.underlying u = some d) (hd : ∀ k, d ≠ .int k) (hs : sizeOfT P elem = some size) (hb : bytesOfT P elem = some bytes)
    (hz : zeroOf P elem = some z) (hzl : z.length = size) (hn0 : n ≠ 0) (r1 : room len bytes = true) (r2 : room n bytes = true) (hlt : sCap < len + n)
    (es : elems σ size s = some (old, len)) (rs : RV w.heap (Icur n0 I0 σ ρ w.heap) σ ρ s (.slice base len sCap))
    (ex : elems σ size x = some (xs, n)) (rx : RV w.heap (Icur n0 I0 σ ρ w.heap) σ ρ x xv) :
    ∃ c' w', (Builtin.append_ #[t, u] ty #[.slice base len sCap, xv]).run P w = .ok (.slice (some ⟨w.heap.size, 0, none⟩) (len + n) c') w' ∧
      len + n ≤ c' ∧ ∃ arr, w'.heap = w.heap.push (.cells arr elem (0, 0)) ∧ arr.size = c' * size ∧ (old ++ xs).length ≤ arr.size ∧ Below n0 w0 w' ∧
        ∀ (k : Nat) c, (old ++ xs)[k]? = some c → ∃ y, arr[k]? = some y ∧ RV w.heap (Icur n0 I0 σ ρ w.heap) σ ρ c y := by
  obtain ⟨ys, hy1, hy2, hy3, hy4⟩ := elems_sound (P := P) hI.drew es rs
  obtain ⟨zs, hz1, hz2, hz3, hz4⟩ := elems_sound (P := P) hI.drew ex rx
  obtain ⟨_, _, _, hlx, _⟩ := elems_sound (P := P) hI ex rx
  have ly : ys.length = len * size := by rw [← RVL_length hy1, hy2]
  have lz : zs.length = n * size := by rw [← RVL_length hz1, hz2]
  have hold := hy4 len (Nat.le_refl _)
  rw [List.take_of_length_le (by omega)] at hold
  have hnew := hz4 n (Nat.le_refl _)
  rw [List.take_of_length_le (by omega)] at hnew
  obtain ⟨c', rest, hc', hsz, hrun⟩ := run_append_grow (ty := ty) (xv := xv) (base := base) ht hu hd hs hb hz hzl hn0 r1 r2 hlt hlx hold hnew ly lz
  refine ⟨c', _, hrun, hc', _, rfl, by simpa using hsz, ?_, ?_, fun k c hk => ?_⟩
  · simp; omega
  · exact (hI.below.drew).alloc hI.n0_le _
  · have := RVL_append hy1 hz1
    obtain ⟨y, hy, hr⟩ := RVL_get this hk
    refine ⟨y, ?_, hr⟩
    rw [List.getElem?_toArray, List.append_assoc, List.getElem?_append]
    rw [List.getElem?_append] at hy
    split at hy
    · rename_i h; rw [if_pos h]; exact hy
    · rename_i h
      rw [if_neg h, List.getElem?_append]
      have : k - ys.length < zs.length := by
        rcases Nat.lt_or_ge (k - ys.length) zs.length with h' | h'
        · exact h'
        · rw [List.getElem?_eq_none h'] at hy; cases hy
      rw [if_pos this]; exact hy
theorem bsize_push_new (h : Array Go.Obj) (arr : Array Value) (t : TypeId) (fr : Nat × Nat) : bsize (h.push (.cells arr t fr)) h.size = arr.size := by
  unfold bsize
  simp
theorem opAppend_sound (hI : Inv n0 w0 I0 σ ρ w) {t u ty elem : TypeId} {d : TypeDesc} {size bytes : Nat} {z : List Tree} {s x v : V} {sv xv : Value}
    (ht : P.underlying t = some (.slice elem)) (hu : P.underlying u = some d) (hd : ∀ k, d ≠ .int k) (hs : sizeOfT P elem = some size) (hb : bytesOfT P elem = some bytes)
    (hz : zeroOf P elem = some z) (hzl : z.length = size)
    (e : opAppend size bytes s x σ = some (v, σ'))
    (rs : RV w.heap (Icur n0 I0 σ ρ w.heap) σ ρ s sv) (rx : RV w.heap (Icur n0 I0 σ ρ w.heap) σ ρ x xv) :
    ∃ y w', (Builtin.append_ #[t, u] ty #[sv, xv]).run P w = .ok y w' ∧ Post n0 w0 I0 σ ρ w v σ' y w' := by
  unfold opAppend at e
  cases ex : elems σ size x with
  | none => rw [ex] at e; cases e
  | some q =>
    obtain ⟨xs, n⟩ := q
    rw [ex] at e
    simp only at e
    split at e
    case isTrue => cases e
    case isFalse hroom =>
    have r2 : room n bytes = true := by simpa using hroom
    obtain ⟨zs, hz1, hz2, hz3, hz4⟩ := elems_sound (P := P) hI ex rx
    have hzl' := RVL_length hz1
    have noop : ∀ (base : Option Addr) (len c : Nat), n = 0 → len ≤ c → sv = .slice base len c → v = s → σ' = σ →
        ∃ y w', (Builtin.append_ #[t, u] ty #[sv, xv]).run P w = .ok y w' ∧ Post n0 w0 I0 σ ρ w v σ' y w' := by
      rintro base len c rfl hle rfl rfl rfl
      refine ⟨_, w, run_append_in (new := []) ht hu hd hs (by omega) hz3 ?_ ?_, Post.same hI rs⟩
      · have := hz4 0 (Nat.le_refl _)
        simpa using this
      · cases base with
        | none => rfl
        | some a => simp [storeCells]
    have newPlace : ∀ (base : Option Addr) (len c : Nat) (old : List V), n ≠ 0 → room len bytes = true → c < len + n → sv = .slice base len c → elems σ size s = some (old, len) →
        v = .own σ.length 0 0 (len + n) size none → σ' = σ ++ [.row (old ++ xs) 0] →
        ∃ y w', (Builtin.append_ #[t, u] ty #[sv, xv]).run P w = .ok y w' ∧ Post n0 w0 I0 σ ρ w v σ' y w' := by
      rintro base len c old hn r1 hlt rfl es rfl rfl
      obtain ⟨c', w', hrun, hc', arr, hw', harr, hfit, hbel, hcells⟩ := append_grow_new (ty := ty) hI ht hu hd hs hb hz hzl hn r1 r2 hlt es rs ex rx
      obtain ⟨h1, h2⟩ := alloc_row (g := 0) (cs := old ++ xs) hI hw' hbel (.inl rfl) hfit hcells
      have hbs : bsize w'.heap w.heap.size = c' * size := by rw [hw', bsize_push_new, harr]
      exact ⟨_, w', hrun, _, h1, h2, own_new _ 0 σ ρ _ _ _ _ none hc' (by simp) (fun _ => hbs.symm) (.inr (by omega))⟩
    cases s with
    | own id g off len sz cap =>
      simp only at e
      split at e
      case isTrue => cases e
      case isFalse hsz =>
      have hsz' : sz = size := by simpa using hsz
      subst hsz'
      split at e
      case isTrue => cases e
      case isFalse hroom2 =>
      have r1 : room len bytes = true := by simpa using hroom2
      cases hob : σ[id]? with
      | none => rw [hob] at e; cases e
      | some ob =>
      rw [hob] at e
      cases ob with
      | fro => cases e
      | map => cases e
      | row cs g' =>
      simp only at e
      split at e
      case isTrue => cases e
      case isFalse hg =>
      have hg' : g = g' := by simpa using hg
      subst hg'
      cases hsl : slice? cs off (len * sz) with
      | none => rw [hsl] at e; cases e
      | some old =>
      rw [hsl] at e
      simp only at e
      obtain ⟨a, c, b, o, rfl, hρ, hlc, hcap, hopen, hpl⟩ := own_parts rs hob rfl
      have es := slice?_elems (cap := cap) hob hsl
      split at e
      case isTrue hn =>
        simp only [Option.some.injEq, Prod.mk.injEq] at e
        exact noop _ _ _ hn hlc rfl e.1.symm e.2.symm
      case isFalse hn =>
      have inPlace : ∀ σ2, len + n ≤ c → obPut σ id g (off + len * sz) xs = some σ2 → v = .own id g off (len + n) sz cap → σ' = σ2 →
          ∃ y w', (Builtin.append_ #[t, u] ty #[.slice (some a) len c, xv]).run P w = .ok y w' ∧ Post n0 w0 I0 σ ρ w v σ' y w' := by
        rintro σ2 hle hput rfl rfl
        rcases hpl with rfl | ⟨rfl, hbs⟩
        · omega
        · obtain ⟨w', hrun, hI', hE⟩ := obPut_sound (P := P) hI hput hρ hz1
          refine ⟨_, w', run_append_in (new := zs) ht hu hd hs hle hz3 ?_ ?_, ρ, hI', hE, ?_⟩
          · have := hz4 n (Nat.le_refl _)
            rwa [List.take_of_length_le (by omega)] at this
          · simp only
            rw [addr_add, show o + off + len * sz = o + (off + len * sz) by omega]
            exact hrun
          · have r2 := RV_mono hE _ _ rs
            simp only [RV] at r2 ⊢
            obtain ⟨ob, a', c', h1, h2, h3, h4⟩ := r2
            cases h2
            refine ⟨ob, _, _, h1, rfl, h3, fun hh => ?_⟩
            obtain ⟨b', o', h5, h6, h7, h8⟩ := h4 hh
            exact ⟨b', o', h5, hle, h7, h8⟩
      cases cap with
      | some c0 =>
        simp only at e
        have hcc := hcap c0 rfl
        subst hcc
        split at e
        case isTrue hle =>
          cases hput : obPut σ id g (off + len * sz) xs with
          | none => rw [hput] at e; cases e
          | some σ2 =>
            rw [hput] at e
            simp only [Option.some.injEq, Prod.mk.injEq] at e
            exact inPlace σ2 hle hput e.1.symm e.2.symm
        case isFalse hle =>
          simp only [Option.some.injEq, Prod.mk.injEq] at e
          exact newPlace _ _ _ old hn r1 (by omega) rfl es e.1.symm e.2.symm
      | none =>
        simp only at e
        have hop := hopen rfl
        obtain ⟨arr, t', lo, hi, ha1, ha2, ha3, hcells⟩ := hI.obs id b o _ hρ hob
        have hbsz : bsize w.heap b = arr.size := bsize_of_arr ha1
        split at e
        case isTrue hin =>
          cases hput : obPut σ id g (off + len * sz) xs with
          | none => rw [hput] at e; cases e
          | some σ2 =>
            rw [hput] at e
            simp only [Option.some.injEq, Prod.mk.injEq] at e
            refine inPlace σ2 ?_ hput e.1.symm e.2.symm
            have h1 : (len + n) * sz ≤ c * sz := by omega
            exact Nat.le_of_mul_le_mul_right h1 hin.2
        case isFalse hin =>
          split at e
          case isFalse => cases e
          case isTrue hone =>
          simp only [Option.some.injEq, Prod.mk.injEq] at e
          obtain ⟨rfl, rfl⟩ := e
          have hid : id < σ.length := (hI.new id b o hρ).2.2
          have hbw : b < w.heap.size := (hI.new id b o hρ).2.1
          obtain ⟨hol, hoget⟩ := slice?_some hsl
          have hmul : (len + n) * sz = len * sz + n * sz := Nat.add_mul _ _ _
          by_cases hle : len + n ≤ c
          ·
            rcases hpl with rfl | ⟨rfl, hbs⟩
            · omega
            · have hcm : (len + n) * sz ≤ c * sz := Nat.mul_le_mul_right _ hle
              have hrun := run_storeCells (P := P) zs (o + off + len * sz) 0 w arr ha1 (ha2.imp (fun h => Nat.le_of_eq h.symm) (fun h => h)) (by omega) (oneV_all hone hz1)
              have hw' : ∃ w', (storeCells ⟨b, o + off + len * sz, none⟩ zs).run P w = .ok () w' ∧ w'.heap.size = w.heap.size ∧ Below n0 w0 w' ∧
                  (∀ k, k ≠ b → w'.heap[k]? = w.heap[k]?) ∧ w'.heap[b]? = some (.cells (putArr arr (o + off + len * sz) zs) t' (lo, hi)) := by
                refine ⟨_, hrun, ?_⟩
                split
                · rename_i hnil
                  subst hnil
                  exact ⟨rfl, hI.below, fun _ _ => rfl, by simpa [putArr] using ha1⟩
                · exact ⟨wset_size _ _ _, wset_below hI.below _ (hI.new id b o hρ).1, fun k hk => wset_other _ _ _ _ hk, by rw [wset_get _ _ _ hbw]; simp⟩
              obtain ⟨w', hst, hsize, hbel, hoth, hblk⟩ := hw'
              have := hI.update (id := id) (b' := b) (o' := o + off) (ob' := .row (old ++ xs) (g + 1)) (σ' := σ.set id (.row (old ++ xs) (g + 1))) (w' := w')
                (by simp [hid]) (fun i hi => by rw [List.getElem?_set]; simp [Ne.symm hi]) (by simp) hbel (by omega) (by omega) (.inl ⟨o, hρ⟩)
                (fun ob h1 => by
                  rw [hob] at h1
                  cases h1
                  exact ⟨⟨_, hρ⟩, by simp, by simp [genOf], rfl, fun h => by simp [genOf] at h⟩)
                (fun b' hb' hne => hoth b' (fun h => hne o (h ▸ hρ)))
                (fun E => by
                  refine ⟨_, t', lo, hi, hblk, by rw [putArr_size]; exact ha2, ?_, fun k c' hk => ?_⟩
                  · rw [putArr_size, List.length_append, hol, hz2]; omega
                  · rw [putArr_get _ _ _ _ (by omega)]
                    rw [List.getElem?_append] at hk
                    split at hk
                    · rename_i hlt
                      rw [if_neg (by omega)]
                      rw [hoget k (by omega)] at hk
                      obtain ⟨y, hy, hr⟩ := hcells _ _ hk
                      exact ⟨y, by rw [show o + off + k = o + (off + k) by omega]; exact hy, RV_mono E _ _ hr⟩
                    · rename_i hge
                      have hk2 : k - old.length < xs.length := by
                        rcases Nat.lt_or_ge (k - old.length) xs.length with h | h
                        · exact h
                        · rw [List.getElem?_eq_none h] at hk; cases hk
                      rw [if_pos (by omega)]
                      obtain ⟨y, hy, hr⟩ := RVL_get hz1 hk
                      exact ⟨y, by rw [show o + off + k - (o + off + len * sz) = k - old.length by omega]; exact hy, RV_mono E _ _ hr⟩)
              refine ⟨_, w', run_append_in (new := zs) ht hu hd hs hle hz3 ?_ ?_, _, this.1, this.2, ?_⟩
              · have := hz4 n (Nat.le_refl _)
                rwa [List.take_of_length_le (by omega)] at this
              · simp only
                rw [addr_add]
                exact hst
              · simp only [RV]
                refine ⟨.row (old ++ xs) (g + 1), _, c, by simp [hid], rfl, Nat.le_refl _, fun _ => ⟨b, o + off, upd_same _ _ _, hle, by simp, fun _ => ?_, .inr ⟨rfl, ?_⟩⟩⟩
                · rw [bsize_of_arr hblk, putArr_size]; omega
                · rw [bsize_of_arr hblk, putArr_size]; omega
          · obtain ⟨c', w', hrun, hc', arr', hw', harr, hfit, hbel, hcells'⟩ := append_grow_new (ty := ty) hI ht hu hd hs hb hz hzl hn r1 r2 (by omega) es rs ex rx
            have := hI.update (id := id) (b' := w.heap.size) (o' := 0) (ob' := .row (old ++ xs) (g + 1)) (σ' := σ.set id (.row (old ++ xs) (g + 1))) (w' := w')
                (by simp [hid]) (fun i hi => by rw [List.getElem?_set]; simp [Ne.symm hi]) (by simp) hbel (by rw [hw']; simp) (by rw [hw']; simp) (.inr (Nat.le_refl _))
                (fun ob h1 => by
                  rw [hob] at h1
                  cases h1
                  exact ⟨⟨_, hρ⟩, by simp, by simp [genOf], rfl, fun h => by simp [genOf] at h⟩)
                (fun b' hb' _ => by rw [hw', Array.getElem?_push, if_neg (by omega)])
                (fun E => by
                  refine ⟨arr', elem, 0, 0, by rw [hw']; simp, .inl rfl, by omega, fun k c' hk => ?_⟩
                  obtain ⟨y, hy, hr⟩ := hcells' k c' hk
                  exact ⟨y, by simpa using hy, RV_mono E _ _ hr⟩)
            have hbs : bsize w'.heap w.heap.size = c' * sz := by rw [hw', bsize_push_new, harr]
            refine ⟨_, w', hrun, _, this.1, this.2, ?_⟩
            simp only [RV]
            exact ⟨.row (old ++ xs) (g + 1), _, c', by simp [hid], rfl, Nat.le_refl _, fun _ => ⟨w.heap.size, 0, upd_same _ _ _, hc', by simp, fun _ => by omega, .inr ⟨rfl, by omega⟩⟩⟩
    | tr tt =>
      cases tt with
      | row ts len cap =>
        simp only at e
        have rs' := rs
        simp only [RV, RT] at rs'
        obtain ⟨a, c, rfl, hlc, hcap, hpl⟩ := rs'
        split at e
        case isTrue hn =>
          simp only [Option.some.injEq, Prod.mk.injEq] at e
          exact noop _ _ _ hn hlc rfl e.1.symm e.2.symm
        case isFalse hn =>
          split at e
          case isFalse => cases e
          case isTrue h1 =>
            cases cap with
            | none => cases e
            | some c0 =>
              have := hcap c0 rfl
              subst this
              simp only at e
              split at e
              case isTrue => cases e
              case isFalse hle =>
                simp only [Option.some.injEq, Prod.mk.injEq] at e
                exact newPlace _ _ _ (ts.map .tr) hn h1.2 (by omega) rfl (by simp [elems, h1.1]) e.1.symm e.2.symm
      | sc sv' =>
        have := RV_sc.1 rs
        subst this
        split at e
        · rename_i heq
          cases heq
          split at e
          case isTrue hn =>
            simp only [Option.some.injEq, Prod.mk.injEq] at e
            exact noop _ _ _ hn (Nat.le_refl _) rfl e.1.symm e.2.symm
          case isFalse hn =>
            simp only [Option.some.injEq, Prod.mk.injEq] at e
            refine newPlace none 0 0 [] hn (by simp [room]) (by omega) rfl (by simp [elems]) (by rw [← e.1, Nat.zero_add]) (by rw [← e.2]; rfl)
        · rename_i heq; cases heq
        · rename_i heq; cases heq
        · cases e
      | _ => simp at e
    | _ => simp at e
end
end Go.Proofs.Ytodgdmhifbnofaa.AM
end
