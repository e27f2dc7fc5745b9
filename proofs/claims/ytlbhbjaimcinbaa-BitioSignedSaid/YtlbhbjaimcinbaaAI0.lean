/- An interpreter of the program's code over an abstract memory: blocks with a list of cells, no capacities, no order drawn. Definitions alone. -/
import Derived.Calls
import Derived.Orders
import Derived.RowKit3
import Derived.KernelRfl
namespace Go.Proofs.Ytlbhbjaimcinbaa.AI
open Go

/-- A block of abstract memory: may it be written, and its cells. -/
structure Blk where
  rw : Bool
  cells : List Value

abbrev Heap := List (Option Blk)
abbrev Env := List (Nat × Value)

/-- Operands. -/
inductive Arg where
  | t (n : Nat)
  | c (v : Value)
  | f (i : Nat)
  | g (i : Nat)

inductive Ty where
  | bool | int | str

/-- Operations, their types resolved. -/
inductive AOp where
  | mov (x : Arg)
  | pick (c a b : Arg)
  | bin (op : BinOp) (x y : Arg)
  | eqs (neg : Bool) (tys : List Ty) (x y : Arg)
  | eqp (neg : Bool) (x y : Arg)
  | eqb (neg : Bool) (x y : Arg)
  | un (op : UnOp) (x : Arg)
  | cvI (k : IntKind) (x : Arg)
  | cvIS (x : Arg)
  | cvSS (x : Arg)
  | cvSB (x : Arg)
  | cvBS (x : Arg)
  | load (n : Option Nat) (a : Arg)
  | store (n : Nat) (a x : Arg)
  | nilck (x : Arg)
  | faddr (off : Nat) (a : Arg)
  | iaddrS (sz : Nat) (x i : Arg)
  | iaddrA (n sz : Nat) (x i : Arg)
  | idxS (x i : Arg)
  | idxA (n : Nat) (sz : Option Nat) (x i : Arg)
  | fld (off : Nat) (sz : Option Nat) (x : Arg)
  | ext (i : Nat) (x : Arg)
  | new (cells : List Value)
  | box (x : Arg)
  | build (zero : List Value) (parts : List (Nat × Nat × Arg))
  | buildS (sz len : Nat) (zero : List Value) (parts : List (Nat × Nat × Arg))
  | mkS (bytes : Nat) (zero : List Value) (l c : Arg)
  | slS (x : Arg) (lo hi : Option Arg)
  | slL (sz : Nat) (x : Arg) (lo hi mx : Option Arg)
  | slA (n sz : Nat) (x : Arg) (lo hi : Option Arg)
  | mkF (i : Nat) (first captured : List Arg)
  | lenS (x : Arg)
  | lenL (x : Arg)
  | minI (xs : List Arg)
  | maxI (xs : List Arg)
  | app (sz bytes : Nat) (d s : Arg)
  | copy (sz : Nat) (d s : Arg)
  | call (f : Nat) (args : List Arg)
  | callv (f : Arg) (args : List Arg)

structure AOper where
  dst : Option Nat
  guard : Option (Nat × Bool)
  op : AOp

/-- An operation of a region whose order is open: does it change memory, and in how many elder memories may it be carried out as well. -/
structure DOper where
  o : AOper
  eff : Bool
  back : Nat

inductive ACode where
  | skip
  | ret
  | exit (id : Nat)
  | seq (a b : ACode)
  | cond (c : Arg) (a b : ACode)
  | block (id : Nat) (a : ACode)
  | loop (a : ACode)
  | reg (ops : List AOper) (live : List Nat)
  | regd (ops : List DOper) (live : List Nat)

inductive ARes where
  | tmp (t : Nat)
  | cell (t : Nat) (n : Option Nat)

structure AFn where
  ntmps : Nat
  body : ACode
  results : List ARes
  trunc : Bool
  iso : Bool

/-- Nothing that leads to memory: one cell. -/
def atom : Value → Bool
  | .bool _ | .int _ _ | .float _ _ | .complex _ _ _ | .string _ | .pointer none | .slice none 0 0 | .map none | .chan none | .nilFunc | .nilIface => true
  | _ => false

/-- All blocks that a value names are below n. -/
def idsB : Nat → Nat → Value → Bool
  | 0, _, _ => false
  | d + 1, n, v => match v with
    | .pointer (some a) => decide (a.block < n)
    | .slice (some a) _ _ => decide (a.block < n)
    | .agg cs => cs.toList.all (idsB d n)
    | .tuple cs => cs.toList.all (idsB d n)
    | .func _ first captured => first.toList.all (idsB d n) && captured.toList.all (idsB d n)
    | v => atom v

/-- Surely the same value. -/
def sameV : Nat → Value → Value → Bool
  | 0, _, _ => false
  | d + 1, v, v' => match v, v' with
    | .bool a, .bool b => a == b
    | .int k a, .int k' b => decide (k = k') && decide (a = b)
    | .string a, .string b => decide (a.data.toList = b.data.toList)
    | .pointer none, .pointer none => true
    | .pointer (some a), .pointer (some b) => decide (a = b)
    | .slice none 0 0, .slice none 0 0 => true
    | .slice (some a) n z, .slice (some b) n' z' => decide (a = b) && decide (n = n') && decide (z = z')
    | .nilFunc, .nilFunc => true
    | .agg a, .agg b => sameL (sameV d) a.toList b.toList
    | .tuple a, .tuple b => sameL (sameV d) a.toList b.toList
    | _, _ => false
where sameL (f : Value → Value → Bool) : List Value → List Value → Bool
  | [], [] => true
  | x :: xs, y :: ys => f x y && sameL f xs ys
  | _, _ => false

/-- A constant: nothing that leads to memory, no function. -/
def constV : Nat → Value → Bool
  | 0, _ => false
  | d + 1, v => match v with
    | .agg cs => cs.toList.all (constV d)
    | .tuple cs => cs.toList.all (constV d)
    | v => atom v

def blkB (n : Nat) : Option Blk → Bool
  | none => true
  | some b => b.cells.all (idsB 9 n)

def lk : Env → Nat → Option Value
  | [], _ => none
  | (k, v) :: r, n => if k = n then some v else lk r n

def ev (e : Env) : Arg → Option Value
  | .t n => lk e n
  | .c v => some v
  | .f i => some (.func (.func i) #[] #[])
  | .g _ => none

def evs (e : Env) : List Arg → Option (List Value)
  | [] => some []
  | a :: r => (ev e a).bind fun v => (evs e r).bind fun vs => some (v :: vs)

def evo (e : Env) : Option Arg → Option (Option Value)
  | none => some none
  | some a => (ev e a).map some

def putE (e : Env) (d : Option Nat) (v : Value) : Env :=
  match d with
  | some d => (d, v) :: e
  | none => e

/-- A value of whole numbers, bools and strings alone, by a Sem that comes to no memory. -/
def eval0 {α : Type} : Sem α → Option α
  | .pure a => some a
  | _ => none

def binV (op : BinOp) (x y : Value) : Option Value :=
  match x, y with
  | .int k a, .int k' b => match op with
    | .shl | .shr => eval0 (Op.shift op k a k' b)
    | .add | .sub | .mul => if k = k' then eval0 (Op.intArith op k a b) else none
    | .quo | .rem => if k = k' then eval0 (Op.intDiv op k a b) else none
    | .and | .or | .xor | .andNot => if k = k' then eval0 (Op.intBits op k a b) else none
    | _ => if k = k' then eval0 (Op.intCmp op a b) else none
  | .string a, .string b => eval0 (Op.stringOp op a b)
  | _, _ => none

def eq1 : Ty → Value → Value → Option Bool
  | .bool, .bool a, .bool b => some (a == b)
  | .int, .int k a, .int k' b => if k = k' then some (a == b) else none
  | .str, .string a, .string b => some (a == b)
  | _, _, _ => none

def eqL : List Ty → List Value → List Value → Option Bool
  | [], _, _ => some true
  | t :: ts, x :: xs, y :: ys => (eq1 t x y).bind fun b => if b then eqL ts xs ys else some false
  | _, _, _ => none

/-- Pointers against nil. -/
def eqPtr : Value → Value → Option Bool
  | .pointer none, .pointer b => some b.isNone
  | .pointer (some _), .pointer none => some false
  | _, _ => none

def hget (H : Heap) (i : Nat) : Option Blk := (H[i]?).join

def hload (H : Heap) (n : Option Nat) (a : Addr) : Option Value :=
  (hget H a.block).bind fun b =>
    match n with
    | none => b.cells[a.off]?
    | some n => if a.off + n ≤ b.cells.length then some (.agg ((b.cells.drop a.off).take n).toArray) else none

def splice (cs : List Value) (o : Nat) : List Value → List Value
  | [] => cs
  | v :: r => splice (cs.set o v) (o + 1) r

def one : Value → Bool
  | .agg _ | .tuple _ => false
  | _ => true

def hstore (H : Heap) (a : Addr) (vs : List Value) : Option Heap :=
  (hget H a.block).bind fun b =>
    if b.rw && decide (a.off + vs.length ≤ b.cells.length) && vs.all one then some (H.set a.block (some { b with cells := splice b.cells a.off vs })) else none

def addrOf : Value → Option Addr
  | .pointer (some ⟨b, o, none⟩) => some ⟨b, o, none⟩
  | _ => none

def intOf? : Value → Option Int
  | .int _ n => some n
  | _ => none

def partOf (sz : Option Nat) (cs : List Value) (off : Nat) : Option Value :=
  match sz with
  | none => cs[off]?
  | some n => if off + n ≤ cs.length then some (.agg ((cs.drop off).take n).toArray) else none

def fillL (cells : List Value) : List (Nat × Nat × Value) → Option (List Value)
  | [] => some cells
  | (off, size, v) :: r => if v.cells.size = size ∧ off + size ≤ cells.length then fillL (splice cells off v.cells.toList) r else none

def evp (e : Env) : List (Nat × Nat × Arg) → Option (List (Nat × Nat × Value))
  | [] => some []
  | (o, s, a) :: r => (ev e a).bind fun v => (evp e r).bind fun vs => some ((o, s, v) :: vs)

/-- The bounds of a slice expression: low, high. -/
def boundsOf (len cap : Nat) (lo hi : Option Value) : Option (Nat × Nat) :=
  (match hi with
    | none => some len
    | some v => (intOf? v).bind fun i => if 0 ≤ i ∧ i ≤ cap then some i.toNat else none).bind fun h =>
  (match lo with
    | none => some 0
    | some v => (intOf? v).bind fun i => if 0 ≤ i ∧ i ≤ h then some i.toNat else none).bind fun l => some (l, h)

def bytesOf? : List Value → Option (List UInt8)
  | [] => some []
  | .int .u8 n :: r => (bytesOf? r).map (UInt8.ofNat n.toNat :: ·)
  | _ => none

def cellsOfSlice (H : Heap) (sz : Nat) : Value → Option (List Value)
  | .slice none 0 0 => some []
  | .slice (some a) n _ => if n = 0 then some [] else (hget H a.block).bind fun b => if a.off + n * sz ≤ b.cells.length then some ((b.cells.drop a.off).take (n * sz)) else none
  | .string s => if sz = 1 then some (s.data.toList.map fun b => .int .u8 b.toNat) else none
  | _ => none

def lenV : Value → Option Nat
  | .slice _ n _ => some n
  | .string s => some s.size
  | _ => none

/-- An operation that calls nothing: its value, and the memory behind it. -/
def aop (o : AOp) (e : Env) (H : Heap) : Option (Value × Heap) :=
  match o with
  | .mov x => (ev e x).map (·, H)
  | .pick c a b => match ev e c with
    | some (.bool c) => (if c then ev e a else ev e b).map (·, H)
    | _ => none
  | .bin op x y => (ev e x).bind fun x => (ev e y).bind fun y => (binV op x y).map (·, H)
  | .eqs neg tys x y => match ev e x, ev e y with
    | some (.agg xs), some (.agg ys) => if xs.size = tys.length ∧ ys.size = tys.length then (eqL tys xs.toList ys.toList).map fun b => (.bool (b != neg), H) else none
    | _, _ => none
  | .eqp neg x y => (ev e x).bind fun x => (ev e y).bind fun y => (eqPtr x y).map fun b => (.bool (b != neg), H)
  | .eqb neg x y => match ev e x, ev e y with
    | some (.bool p), some (.bool q) => some (.bool ((p == q) != neg), H)
    | _, _ => none
  | .un op x => (ev e x).bind fun x => (eval0 (Op.unary op x)).map (·, H)
  | .cvI k x => (ev e x).bind fun x => (intOf? x).map fun n => (.int k (k.wrap n), H)
  | .cvIS x => (ev e x).bind fun x => (intOf? x).bind fun n => (eval0 (Conv.intToString n)).map (·, H)
  | .cvSS x => match ev e x with
    | some (.string s) => some (.string s, H)
    | _ => none
  | .cvSB x => match ev e x with
    | some (.string s) => some (.slice (some ⟨H.length, 0, none⟩) s.size 1, H ++ [some ⟨true, s.data.toList.map fun b => .int .u8 b.toNat⟩])
    | _ => none
  | .cvBS x => match ev e x with
    | some (.slice a n c) => (cellsOfSlice H 1 (.slice a n c)).bind fun (cs : List Value) => (bytesOf? cs).map fun (l : List UInt8) => (Value.string ⟨l.toArray⟩, H)
    | _ => none
  | .load n a => (ev e a).bind fun a => (addrOf a).bind fun a => (hload H n a).map (·, H)
  | .store n a x => (ev e a).bind fun a => (addrOf a).bind fun a => (ev e x).bind fun x => if x.cells.size = n then (hstore H a x.cells.toList).map (undef, ·) else none
  | .nilck x => match ev e x with
    | some (.pointer (some a)) => some (.pointer (some a), H)
    | some (.func (.func i) f c) => some (.func (.func i) f c, H)
    | _ => none
  | .faddr off a => (ev e a).bind fun a => (addrOf a).map fun a => (.pointer (some ⟨a.block, a.off + off, none⟩), H)
  | .iaddrS sz x i => match ev e x, ev e i with
    | some (.slice (some a) n _), some (.int _ i) => if 0 ≤ i ∧ i < n then some (.pointer (some ⟨a.block, a.off + i.toNat * sz, none⟩), H) else none
    | _, _ => none
  | .iaddrA n sz x i => (ev e x).bind fun x => (addrOf x).bind fun a => (ev e i).bind fun i => (intOf? i).bind fun i => if 0 ≤ i ∧ i < n then some (.pointer (some ⟨a.block, a.off + i.toNat * sz, none⟩), H) else none
  | .idxS x i => match ev e x, ev e i with
    | some (.string s), some (.int _ i) => if 0 ≤ i then (s[i.toNat]?).map fun b => (.int .u8 b.toNat, H) else none
    | _, _ => none
  | .idxA n sz x i => match ev e x, ev e i with
    | some (.agg cs), some (.int _ i) => if 0 ≤ i ∧ i < n then (partOf sz cs.toList (i.toNat * sz.getD 1)).map (·, H) else none
    | _, _ => none
  | .fld off sz x => match ev e x with
    | some (.agg cs) => (partOf sz cs.toList off).map (·, H)
    | _ => none
  | .ext i x => match ev e x with
    | some (.tuple vs) => (vs.toList[i]?).map (·, H)
    | _ => none
  | .new cells => some (.pointer (some ⟨H.length, 0, none⟩), H ++ [some ⟨true, cells⟩])
  | .box x => (ev e x).map fun v => (.pointer (some ⟨H.length, 0, none⟩), H ++ [some ⟨true, v.cells.toList⟩])
  | .build zero parts => (evp e parts).bind fun ps => (fillL zero ps).map fun cs => (.agg cs.toArray, H)
  | .buildS sz len zero parts => (evp e parts).bind fun ps => (fillL zero ps).map fun cs => (.slice (some ⟨H.length, 0, none⟩) len sz, H ++ [some ⟨true, cs⟩])
  | .mkS bytes zero l c => (ev e l).bind fun l => (intOf? l).bind fun l => (ev e c).bind fun c => (intOf? c).bind fun c =>
      if 0 ≤ l ∧ l ≤ c ∧ c ≤ 1000000000 ∧ bytes ≤ 1000 then some (.slice (some ⟨H.length, 0, none⟩) l.toNat zero.length, H ++ [some ⟨true, (List.replicate l.toNat zero).flatten⟩]) else none
  | .slS x lo hi => match ev e x, evo e lo, evo e hi with
    | some (.string s), some lo, some hi => (boundsOf s.size s.size lo hi).map fun (l, h) => (.string (s.extract l h), H)
    | _, _, _ => none
  | .slL sz x lo hi mx => match ev e x, evo e lo, evo e hi, mx with
    | some (.slice (some a) n z), some lo, some hi, none => (boundsOf n n lo hi).bind fun (l, h) => if l < n ∧ z = sz then some (.slice (some ⟨a.block, a.off + l * sz, none⟩) (h - l) sz, H) else none
    | _, _, _, _ => none
  | .slA n sz x lo hi => match ev e x, evo e lo, evo e hi with
    | some v, some lo, some hi => (addrOf v).bind fun a => (boundsOf n n lo hi).bind fun (l, h) => if l < n ∧ a.off + n * sz ≤ ((hget H a.block).map (·.cells.length)).getD 0 then some (.slice (some ⟨a.block, a.off + l * sz, none⟩) (h - l) sz, H) else none
    | _, _, _ => none
  | .mkF i first captured => (evs e first).bind fun f => (evs e captured).map fun c => (.func (.func i) f.toArray c.toArray, H)
  | .lenS x => match ev e x with
    | some (.string s) => some (.int .i64 s.size, H)
    | _ => none
  | .lenL x => match ev e x with
    | some (.slice _ n _) => some (.int .i64 n, H)
    | _ => none
  | .minI xs => (evs e xs).bind fun vs => match vs with
    | [.int k a, .int k' b] => if k = k' then some (.int k (if b < a then b else a), H) else none
    | _ => none
  | .maxI xs => (evs e xs).bind fun vs => match vs with
    | [.int k a, .int k' b] => if k = k' then some (.int k (if b > a then b else a), H) else none
    | _ => none
  | .app sz bytes d s => (ev e d).bind fun d => (ev e s).bind fun s => (lenV s).bind fun m => (cellsOfSlice H sz s).bind fun new =>
      match d with
      | .slice none 0 0 => if m = 0 then some (d, H) else if m * bytes ≤ 1000000000 then some (.slice (some ⟨H.length, 0, none⟩) m sz, H ++ [some ⟨true, new⟩]) else none
      | .slice (some a) n z => (hget H a.block).bind fun b =>
          if b.rw && decide (z = sz ∧ a.off + n * sz = b.cells.length ∧ (n + m) * bytes ≤ 1000000000) && new.all one then
            some (.slice (some ⟨H.length, 0, none⟩) (n + m) sz, H.set a.block none ++ [some ⟨true, b.cells.drop a.off ++ new⟩])
          else none
      | _ => none
  | .copy sz d s => (ev e d).bind fun d => (ev e s).bind fun s => match d with
      | .slice (some a) n _ => (lenV s).bind fun m => (cellsOfSlice H sz s).bind fun cs => (hstore H a (cs.take (min m n * sz))).map (.int .i64 (min m n : Nat), ·)
      | _ => none
  | .call .. | .callv .. => none

section
variable (call : Nat → List Value → Heap → Option (Value × Heap))

/-- The value of an operation, calls among them. -/
def dval (op : AOp) (e : Env) (H : Heap) : Option (Value × Heap) :=
  match op with
  | .call f args => (evs e args).bind fun vs => call f vs H
  | .callv f args => match ev e f with
    | some (.func (.func i) first captured) => (evs e args).bind fun vs => call i (first.toList ++ vs ++ captured.toList) H
    | _ => none
  | op => aop op e H

def does (o : AOper) (e : Env) (H : Heap) : Option (Env × Heap) := (dval call o.op e H).map fun (v, H') => (putE e o.dst v, H')

/-- Is the operation carried out? -/
def want (o : AOper) (e : Env) : Option Bool :=
  match o.guard with
  | none => some true
  | some (t, b) => match lk e t with
    | some (.bool c) => some (c == b)
    | some _ => some false
    | none => none

def step (o : AOper) (e : Env) (H : Heap) : Option (Env × Heap) :=
  match want o e with
  | some true => does call o e H
  | some false => some (putE e o.dst undef, H)
  | none => none

def aops : List AOper → Env → Heap → Option (Env × Heap)
  | [], e, H => some (e, H)
  | o :: r, e, H => (step call o e H).bind fun (e, H) => aops r e H

/-- The operation gives the same value in these memories, and leaves them as they are. -/
def again (o : AOp) (e : Env) (v : Value) : List Heap → Bool
  | [] => true
  | H :: r => (match aop o e H with
    | some (v', _) => sameV 9 v v'
    | none => false) && again o e v r

def okBack (d : DOper) (hist : List Heap) (e : Env) (H : Heap) : Bool :=
  decide (d.back = 0) || want d.o e == some false || (match aop d.o.op e H with | some (v, _) => again d.o.op e v (hist.take d.back) | none => false)

def aopsD : List DOper → List Heap → Env → Heap → Option (Env × Heap)
  | [], _, e, H => some (e, H)
  | d :: r, hist, e, H => (step call d.o e H).bind fun (e', H') =>
    if okBack d hist e H then
      aopsD r (if d.eff then H :: hist else hist) e' H'
    else none

def keep (e : Env) : List Nat → Env
  | [] => []
  | t :: r => match lk e t with
    | some v => (t, v) :: keep e r
    | none => keep e r

inductive AExit where
  | normal | ret | exit (id : Nat)
  deriving DecidableEq

abbrev Out := Option (AExit × Env × Heap)

def iter (f : Env → Heap → Out) : Nat → Env → Heap → Out
  | 0, _, _ => none
  | n + 1, e, H => (f e H).bind fun (x, e, H) => match x with
    | .normal => iter f n e H
    | x => some (x, e, H)

def ax (n : Nat) : ACode → Env → Heap → Out
  | .skip, e, H => some (.normal, e, H)
  | .ret, e, H => some (.ret, e, H)
  | .exit id, e, H => some (.exit id, e, H)
  | .seq a b, e, H => (ax n a e H).bind fun (x, e, H) => match x with
    | .normal => ax n b e H
    | x => some (x, e, H)
  | .cond c a b, e, H => match ev e c with
    | some (.bool true) => ax n a e H
    | some (.bool false) => ax n b e H
    | _ => none
  | .block id a, e, H => (ax n a e H).map fun (x, e, H) => (if x = .exit id then .normal else x, e, H)
  | .loop a, e, H => iter (ax n a) n e H
  | .reg ops live, e, H => (aops call ops e H).map fun (e, H) => (.normal, keep e live, H)
  | .regd ops live, e, H => (aopsD call ops [] e H).map fun (e, H) => (.normal, keep e live, H)
end

def ares (e : Env) (H : Heap) : List ARes → Option (List Value)
  | [] => some []
  | .tmp t :: r => (lk e t).bind fun v => (ares e H r).map (v :: ·)
  | .cell t n :: r => (lk e t).bind fun a => (addrOf a).bind fun a => (hload H n a).bind fun v => (ares e H r).map (v :: ·)

def tup : List Value → Value
  | [v] => v
  | vs => .tuple vs.toArray

def argsE : Nat → List Value → Env
  | _, [] => []
  | i, v :: r => (i, v) :: argsE (i + 1) r

def fin (trunc : Bool) (n : Nat) (v : Value) (H : Heap) : Value × Heap :=
  if trunc && idsB 9 n v && (H.take n).all (blkB n) then (v, H.take n) else (v, H)

/-- A call. A function marked 'iso' that is given numbers, bools and strings alone is reckoned in a memory of its own. -/
def ac (tbl : Nat → Option AFn) : Nat → Nat → List Value → Heap → Option (Value × Heap)
  | 0, _, _, _ => none
  | n + 1, f, args, H => (tbl f).bind fun F =>
    if args.length ≤ F.ntmps then
      if F.iso && !H.isEmpty && args.all (constV 9) then
        (ac tbl n f args []).bind fun r => if constV 9 r.1 && r.2.isEmpty then some (r.1, H) else none
      else
      (ax (ac tbl n) n F.body (argsE 0 args) H).bind fun (x, e, H') =>
        match x with
        | .exit _ => none
        | _ => (ares e H' F.results).map fun vs => fin F.trunc H.length (tup vs) H'
    else none

end Go.Proofs.Ytlbhbjaimcinbaa.AI
