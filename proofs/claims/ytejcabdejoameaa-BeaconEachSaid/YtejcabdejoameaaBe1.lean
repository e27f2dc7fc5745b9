/- What is proved on the way to BeaconEach, part 1: an interpreter of the code, its soundness, and what the functions answer. -/
import Derived.Calls
import Derived.Orders
import Derived.RowKit3
import Derived.KernelRfl
import Derived.WalkKit
import Derived.Laws.IdiomStrings
import Derived.Laws.StructEq
import Derived.LoopN
namespace Go.Proofs.Ytejcabdejoameaa.AI
theorem zaa {α : Type _} {a : α} {l : List α} {i : Nat} : (a :: l)[i + 1]? = l[i]? := rfl
theorem zab {α : Type _} {a : α} {l : List α} : (a :: l)[0]? = some a := rfl
theorem zac {α : Type _} : (none : Option α).isSome = false := rfl
theorem zad {α : Type _} {a : α} : (some a).isSome = true := rfl
theorem zae {α : Type _} {a : α} : (some a).isNone = false := rfl
theorem zaf {α : Type _} : (none : Option α).isNone = true := rfl
theorem zag {α β : Type _} {a : α} {f : α → Option β} : (some a).bind f = f a := rfl
theorem zah {α β : Type _} {a : α} {f : α → β} : Option.map f (some a) = some (f a) := rfl
theorem zai {α : Type _} {l m : List α} : (l ++ m).length = l.length + m.length := List.length_append
theorem zaj {α : Type _} {a b : α} {l : List α} : (a :: l).set 0 b = b :: l := rfl
theorem zak {α : Type _} {a b : α} {l : List α} {n : Nat} : (a :: l).set (n + 1) b = a :: l.set n b := rfl
theorem zal {α : Type _} {a : α} {l : List α} : (a :: l).length = l.length + 1 := rfl
theorem zam {α : Type _} : ([] : List α).length = 0 := rfl
theorem zan {α : Type _} {l : List α} {n : Nat} {a : α} : (l.set n a).length = l.length := List.length_set
theorem zao : (!false) = true := rfl
theorem zap : (!true) = false := rfl
theorem zaq (b : Bool) : (b != false) = b := Bool.bne_false b
theorem zar (b : Bool) : (b != true) = !b := Bool.bne_true b
theorem zas {α : Type _} {a : α} {l : List α} {p : α → Bool} : (a :: l).all p = (p a && l.all p) := rfl
theorem zat {α : Type _} {p : α → Bool} : ([] : List α).all p = true := rfl
theorem zau (b : Bool) : (b && true) = b := Bool.and_true b
theorem zav (b : Bool) : (b && b) = b := Bool.and_self b
theorem zaw (b : Bool) : (true && b) = b := Bool.true_and b
theorem zax (n : Nat) : ¬ n < n := Nat.lt_irrefl n
theorem zay (n : Nat) : n < n + 1 := Nat.lt_add_one n
theorem zaz (n : Nat) : 0 + n = n := Nat.zero_add n
theorem zba (n : Nat) : n + 0 = n := Nat.add_zero n
theorem zbb (h : Decidable True) : @decide True h = true := decide_true h
theorem zbc (h : Decidable False) : @decide False h = false := decide_false h
end Go.Proofs.Ytejcabdejoameaa.AI

/- An interpreter of the program's code over an abstract memory: blocks with a list of cells, no capacities, no order drawn. Definitions alone. -/
namespace Go.Proofs.Ytejcabdejoameaa.AI
open Go

/-- A block of abstract memory: may it be written, and its cells. -/
structure Blk where
  rw : Bool
  cells : List Value

abbrev Heap := List (Option Blk)
abbrev Env := List (Nat × Value)

/-- Operands. -/
inductive Arg where
  | t (n : Nat)
  | c (v : Value)
  | f (i : Nat)
  | g (i : Nat)

inductive Ty where
  | bool | int | str

/-- Operations, their types resolved. -/
inductive AOp where
  | mov (x : Arg)
  | pick (c a b : Arg)
  | bin (op : BinOp) (x y : Arg)
  | eqs (neg : Bool) (tys : List Ty) (x y : Arg)
  | eqp (neg : Bool) (x y : Arg)
  | eqb (neg : Bool) (x y : Arg)
  | un (op : UnOp) (x : Arg)
  | cvI (k : IntKind) (x : Arg)
  | cvIS (x : Arg)
  | cvSS (x : Arg)
  | cvSB (x : Arg)
  | cvBS (x : Arg)
  | load (n : Option Nat) (a : Arg)
  | store (n : Nat) (a x : Arg)
  | nilck (x : Arg)
  | faddr (off : Nat) (a : Arg)
  | iaddrS (sz : Nat) (x i : Arg)
  | iaddrA (n sz : Nat) (x i : Arg)
  | idxS (x i : Arg)
  | idxA (n : Nat) (sz : Option Nat) (x i : Arg)
  | fld (off : Nat) (sz : Option Nat) (x : Arg)
  | ext (i : Nat) (x : Arg)
  | new (cells : List Value)
  | box (x : Arg)
  | build (zero : List Value) (parts : List (Nat × Nat × Arg))
  | buildS (sz len : Nat) (zero : List Value) (parts : List (Nat × Nat × Arg))
  | mkS (bytes : Nat) (zero : List Value) (l c : Arg)
  | slS (x : Arg) (lo hi : Option Arg)
  | slL (sz : Nat) (x : Arg) (lo hi mx : Option Arg)
  | slA (n sz : Nat) (x : Arg) (lo hi : Option Arg)
  | mkF (i : Nat) (first captured : List Arg)
  | lenS (x : Arg)
  | lenL (x : Arg)
  | minI (xs : List Arg)
  | maxI (xs : List Arg)
  | app (sz bytes : Nat) (d s : Arg)
  | copy (sz : Nat) (d s : Arg)
  | call (f : Nat) (args : List Arg)
  | callv (f : Arg) (args : List Arg)

structure AOper where
  dst : Option Nat
  guard : Option (Nat × Bool)
  op : AOp

/-- An operation of a region whose order is open: does it change memory, and in how many elder memories may it be carried out as well. -/
structure DOper where
  o : AOper
  eff : Bool
  back : Nat

inductive ACode where
  | skip
  | ret
  | exit (id : Nat)
  | seq (a b : ACode)
  | cond (c : Arg) (a b : ACode)
  | block (id : Nat) (a : ACode)
  | loop (a : ACode)
  | reg (ops : List AOper) (live : List Nat)
  | regd (ops : List DOper) (live : List Nat)

inductive ARes where
  | tmp (t : Nat)
  | cell (t : Nat) (n : Option Nat)

structure AFn where
  ntmps : Nat
  body : ACode
  results : List ARes
  trunc : Bool
  iso : Bool

/-- Nothing that leads to memory: one cell. -/
def atom : Value → Bool
  | .bool _ | .int _ _ | .float _ _ | .complex _ _ _ | .string _ | .pointer none | .slice none 0 0 | .map none | .chan none | .nilFunc | .nilIface => true
  | _ => false

/-- All blocks that a value names are below n. -/
def idsB : Nat → Nat → Value → Bool
  | 0, _, _ => false
  | d + 1, n, v => match v with
    | .pointer (some a) => decide (a.block < n)
    | .slice (some a) _ _ => decide (a.block < n)
    | .agg cs => cs.toList.all (idsB d n)
    | .tuple cs => cs.toList.all (idsB d n)
    | .func _ first captured => first.toList.all (idsB d n) && captured.toList.all (idsB d n)
    | v => atom v

/-- Surely the same value. -/
def sameV : Nat → Value → Value → Bool
  | 0, _, _ => false
  | d + 1, v, v' => match v, v' with
    | .bool a, .bool b => a == b
    | .int k a, .int k' b => decide (k = k') && decide (a = b)
    | .string a, .string b => decide (a.data.toList = b.data.toList)
    | .pointer none, .pointer none => true
    | .pointer (some a), .pointer (some b) => decide (a = b)
    | .slice none 0 0, .slice none 0 0 => true
    | .slice (some a) n z, .slice (some b) n' z' => decide (a = b) && decide (n = n') && decide (z = z')
    | .nilFunc, .nilFunc => true
    | .agg a, .agg b => sameL (sameV d) a.toList b.toList
    | .tuple a, .tuple b => sameL (sameV d) a.toList b.toList
    | _, _ => false
where sameL (f : Value → Value → Bool) : List Value → List Value → Bool
  | [], [] => true
  | x :: xs, y :: ys => f x y && sameL f xs ys
  | _, _ => false

/-- A constant: nothing that leads to memory, no function. -/
def constV : Nat → Value → Bool
  | 0, _ => false
  | d + 1, v => match v with
    | .agg cs => cs.toList.all (constV d)
    | .tuple cs => cs.toList.all (constV d)
    | v => atom v

def blkB (n : Nat) : Option Blk → Bool
  | none => true
  | some b => b.cells.all (idsB 9 n)

def lk : Env → Nat → Option Value
  | [], _ => none
  | (k, v) :: r, n => if k = n then some v else lk r n

def ev (e : Env) : Arg → Option Value
  | .t n => lk e n
  | .c v => some v
  | .f i => some (.func (.func i) #[] #[])
  | .g _ => none

def evs (e : Env) : List Arg → Option (List Value)
  | [] => some []
  | a :: r => (ev e a).bind fun v => (evs e r).bind fun vs => some (v :: vs)

def evo (e : Env) : Option Arg → Option (Option Value)
  | none => some none
  | some a => (ev e a).map some

def putE (e : Env) (d : Option Nat) (v : Value) : Env :=
  match d with
  | some d => (d, v) :: e
  | none => e

/-- A value of whole numbers, bools and strings alone, by a Sem that comes to no memory. -/
def eval0 {α : Type} : Sem α → Option α
  | .pure a => some a
  | _ => none

def binV (op : BinOp) (x y : Value) : Option Value :=
  match x, y with
  | .int k a, .int k' b => match op with
    | .shl | .shr => eval0 (Op.shift op k a k' b)
    | .add | .sub | .mul => if k = k' then eval0 (Op.intArith op k a b) else none
    | .quo | .rem => if k = k' then eval0 (Op.intDiv op k a b) else none
    | .and | .or | .xor | .andNot => if k = k' then eval0 (Op.intBits op k a b) else none
    | _ => if k = k' then eval0 (Op.intCmp op a b) else none
  | .string a, .string b => eval0 (Op.stringOp op a b)
  | _, _ => none

def eq1 : Ty → Value → Value → Option Bool
  | .bool, .bool a, .bool b => some (a == b)
  | .int, .int k a, .int k' b => if k = k' then some (a == b) else none
  | .str, .string a, .string b => some (a == b)
  | _, _, _ => none

def eqL : List Ty → List Value → List Value → Option Bool
  | [], _, _ => some true
  | t :: ts, x :: xs, y :: ys => (eq1 t x y).bind fun b => if b then eqL ts xs ys else some false
  | _, _, _ => none

/-- Pointers against nil. -/
def eqPtr : Value → Value → Option Bool
  | .pointer none, .pointer b => some b.isNone
  | .pointer (some _), .pointer none => some false
  | _, _ => none

def hget (H : Heap) (i : Nat) : Option Blk := (H[i]?).join

def hload (H : Heap) (n : Option Nat) (a : Addr) : Option Value :=
  (hget H a.block).bind fun b =>
    match n with
    | none => b.cells[a.off]?
    | some n => if a.off + n ≤ b.cells.length then some (.agg ((b.cells.drop a.off).take n).toArray) else none

def splice (cs : List Value) (o : Nat) : List Value → List Value
  | [] => cs
  | v :: r => splice (cs.set o v) (o + 1) r

def one : Value → Bool
  | .agg _ | .tuple _ => false
  | _ => true

def hstore (H : Heap) (a : Addr) (vs : List Value) : Option Heap :=
  (hget H a.block).bind fun b =>
    if b.rw && decide (a.off + vs.length ≤ b.cells.length) && vs.all one then some (H.set a.block (some { b with cells := splice b.cells a.off vs })) else none

def addrOf : Value → Option Addr
  | .pointer (some ⟨b, o, none⟩) => some ⟨b, o, none⟩
  | _ => none

def intOf? : Value → Option Int
  | .int _ n => some n
  | _ => none

def partOf (sz : Option Nat) (cs : List Value) (off : Nat) : Option Value :=
  match sz with
  | none => cs[off]?
  | some n => if off + n ≤ cs.length then some (.agg ((cs.drop off).take n).toArray) else none

def fillL (cells : List Value) : List (Nat × Nat × Value) → Option (List Value)
  | [] => some cells
  | (off, size, v) :: r => if v.cells.size = size ∧ off + size ≤ cells.length then fillL (splice cells off v.cells.toList) r else none

def evp (e : Env) : List (Nat × Nat × Arg) → Option (List (Nat × Nat × Value))
  | [] => some []
  | (o, s, a) :: r => (ev e a).bind fun v => (evp e r).bind fun vs => some ((o, s, v) :: vs)

/-- The bounds of a slice expression: low, high. -/
def boundsOf (len cap : Nat) (lo hi : Option Value) : Option (Nat × Nat) :=
  (match hi with
    | none => some len
    | some v => (intOf? v).bind fun i => if 0 ≤ i ∧ i ≤ cap then some i.toNat else none).bind fun h =>
  (match lo with
    | none => some 0
    | some v => (intOf? v).bind fun i => if 0 ≤ i ∧ i ≤ h then some i.toNat else none).bind fun l => some (l, h)

def bytesOf? : List Value → Option (List UInt8)
  | [] => some []
  | .int .u8 n :: r => (bytesOf? r).map (UInt8.ofNat n.toNat :: ·)
  | _ => none

def yda (H : Heap) (sz : Nat) : Value → Option (List Value)
  | .slice none 0 _ => some []
  | .slice (some a) n _ => if n = 0 then some [] else (hget H a.block).bind fun b => if a.off + n * sz ≤ b.cells.length then some ((b.cells.drop a.off).take (n * sz)) else none
  | .string s => if sz = 1 then some (s.data.toList.map fun b => .int .u8 b.toNat) else none
  | _ => none

def lenV : Value → Option Nat
  | .slice _ n _ => some n
  | .string s => some s.size
  | _ => none

/-- An operation that calls nothing: its value, and the memory behind it. -/
def aop (o : AOp) (e : Env) (H : Heap) : Option (Value × Heap) :=
  match o with
  | .mov x => (ev e x).map (·, H)
  | .pick c a b => match ev e c with
    | some (.bool c) => (if c then ev e a else ev e b).map (·, H)
    | _ => none
  | .bin op x y => (ev e x).bind fun x => (ev e y).bind fun y => (binV op x y).map (·, H)
  | .eqs neg tys x y => match ev e x, ev e y with
    | some (.agg xs), some (.agg ys) => if xs.size = tys.length ∧ ys.size = tys.length then (eqL tys xs.toList ys.toList).map fun b => (.bool (b != neg), H) else none
    | _, _ => none
  | .eqp neg x y => (ev e x).bind fun x => (ev e y).bind fun y => (eqPtr x y).map fun b => (.bool (b != neg), H)
  | .eqb neg x y => match ev e x, ev e y with
    | some (.bool p), some (.bool q) => some (.bool ((p == q) != neg), H)
    | _, _ => none
  | .un op x => (ev e x).bind fun x => (eval0 (Op.unary op x)).map (·, H)
  | .cvI k x => (ev e x).bind fun x => (intOf? x).map fun n => (.int k (k.wrap n), H)
  | .cvIS x => (ev e x).bind fun x => (intOf? x).bind fun n => (eval0 (Conv.intToString n)).map (·, H)
  | .cvSS x => match ev e x with
    | some (.string s) => some (.string s, H)
    | _ => none
  | .cvSB x => match ev e x with
    | some (.string s) => some (.slice (some ⟨H.length, 0, none⟩) s.size 1, H ++ [some ⟨true, s.data.toList.map fun b => .int .u8 b.toNat⟩])
    | _ => none
  | .cvBS x => match ev e x with
    | some (.slice a n c) => (yda H 1 (.slice a n c)).bind fun (cs : List Value) => (bytesOf? cs).map fun (l : List UInt8) => (Value.string ⟨l.toArray⟩, H)
    | _ => none
  | .load n a => (ev e a).bind fun a => (addrOf a).bind fun a => (hload H n a).map (·, H)
  | .store n a x => (ev e a).bind fun a => (addrOf a).bind fun a => (ev e x).bind fun x => if x.cells.size = n then (hstore H a x.cells.toList).map (undef, ·) else none
  | .nilck x => match ev e x with
    | some (.pointer (some a)) => some (.pointer (some a), H)
    | some (.func (.func i) f c) => some (.func (.func i) f c, H)
    | _ => none
  | .faddr off a => (ev e a).bind fun a => (addrOf a).map fun a => (.pointer (some ⟨a.block, a.off + off, none⟩), H)
  | .iaddrS sz x i => match ev e x, ev e i with
    | some (.slice (some a) n _), some (.int _ i) => if 0 ≤ i ∧ i < n then some (.pointer (some ⟨a.block, a.off + i.toNat * sz, none⟩), H) else none
    | _, _ => none
  | .iaddrA n sz x i => (ev e x).bind fun x => (addrOf x).bind fun a => (ev e i).bind fun i => (intOf? i).bind fun i => if 0 ≤ i ∧ i < n then some (.pointer (some ⟨a.block, a.off + i.toNat * sz, none⟩), H) else none
  | .idxS x i => match ev e x, ev e i with
    | some (.string s), some (.int _ i) => if 0 ≤ i then (s[i.toNat]?).map fun b => (.int .u8 b.toNat, H) else none
    | _, _ => none
  | .idxA n sz x i => match ev e x, ev e i with
    | some (.agg cs), some (.int _ i) => if 0 ≤ i ∧ i < n then (partOf sz cs.toList (i.toNat * sz.getD 1)).map (·, H) else none
    | _, _ => none
  | .fld off sz x => match ev e x with
    | some (.agg cs) => (partOf sz cs.toList off).map (·, H)
    | _ => none
  | .ext i x => match ev e x with
    | some (.tuple vs) => (vs.toList[i]?).map (·, H)
    | _ => none
  | .new cells => some (.pointer (some ⟨H.length, 0, none⟩), H ++ [some ⟨true, cells⟩])
  | .box x => (ev e x).map fun v => (.pointer (some ⟨H.length, 0, none⟩), H ++ [some ⟨true, v.cells.toList⟩])
  | .build zero parts => (evp e parts).bind fun ps => (fillL zero ps).map fun cs => (.agg cs.toArray, H)
  | .buildS sz len zero parts => (evp e parts).bind fun ps => (fillL zero ps).map fun cs => (.slice (some ⟨H.length, 0, none⟩) len sz, H ++ [some ⟨true, cs⟩])
  | .mkS bytes zero l c => (ev e l).bind fun l => (intOf? l).bind fun l => (ev e c).bind fun c => (intOf? c).bind fun c =>
      if 0 ≤ l ∧ l ≤ c ∧ c ≤ 1000000000 ∧ bytes ≤ 1000 then some (.slice (some ⟨H.length, 0, none⟩) l.toNat zero.length, H ++ [some ⟨true, (List.replicate l.toNat zero).flatten⟩]) else none
  | .slS x lo hi => match ev e x, evo e lo, evo e hi with
    | some (.string s), some lo, some hi => (boundsOf s.size s.size lo hi).map fun (l, h) => (.string (s.extract l h), H)
    | _, _, _ => none
  | .slL sz x lo hi mx => match ev e x, evo e lo, evo e hi, mx with
    | some (.slice (some a) n z), some lo, some hi, none => (boundsOf n n lo hi).bind fun (l, h) => if l < n ∧ z = sz then some (.slice (some ⟨a.block, a.off + l * sz, none⟩) (h - l) sz, H) else if l = n then some (.slice none 0 1, H) else none
    | some (.slice none 0 _), some lo, some hi, none => (boundsOf 0 0 lo hi).bind fun _ => some (.slice none 0 1, H)
    | _, _, _, _ => none
  | .slA n sz x lo hi => match ev e x, evo e lo, evo e hi with
    | some v, some lo, some hi => (addrOf v).bind fun a => (boundsOf n n lo hi).bind fun (l, h) => if l < n ∧ a.off + n * sz ≤ ((hget H a.block).map (·.cells.length)).getD 0 then some (.slice (some ⟨a.block, a.off + l * sz, none⟩) (h - l) sz, H) else none
    | _, _, _ => none
  | .mkF i first captured => (evs e first).bind fun f => (evs e captured).map fun c => (.func (.func i) f.toArray c.toArray, H)
  | .lenS x => match ev e x with
    | some (.string s) => some (.int .i64 s.size, H)
    | _ => none
  | .lenL x => match ev e x with
    | some (.slice _ n _) => some (.int .i64 n, H)
    | _ => none
  | .minI xs => (evs e xs).bind fun vs => match vs with
    | [.int k a, .int k' b] => if k = k' then some (.int k (if b < a then b else a), H) else none
    | _ => none
  | .maxI xs => (evs e xs).bind fun vs => match vs with
    | [.int k a, .int k' b] => if k = k' then some (.int k (if b > a then b else a), H) else none
    | _ => none
  | .app sz bytes d s => (ev e d).bind fun d => (ev e s).bind fun s => (lenV s).bind fun m => (yda H sz s).bind fun new =>
      match d with
      | .slice none 0 0 => if m = 0 then some (d, H) else if m * bytes ≤ 1000000000 then some (.slice (some ⟨H.length, 0, none⟩) m sz, H ++ [some ⟨true, new⟩]) else none
      | .slice (some a) n z => (hget H a.block).bind fun b =>
          if b.rw && decide (z = sz ∧ a.off + n * sz = b.cells.length ∧ (n + m) * bytes ≤ 1000000000) && new.all one then
            some (.slice (some ⟨H.length, 0, none⟩) (n + m) sz, H.set a.block none ++ [some ⟨true, b.cells.drop a.off ++ new⟩])
          else none
      | _ => none
  | .copy sz d s => (ev e d).bind fun d => (ev e s).bind fun s => match d with
      | .slice (some a) n _ => (lenV s).bind fun m => (yda H sz s).bind fun cs => (hstore H a (cs.take (min m n * sz))).map (.int .i64 (min m n : Nat), ·)
      | _ => none
  | .call .. | .callv .. => none

section
variable (call : Nat → List Value → Heap → Option (Value × Heap))

/-- The value of an operation, calls among them. -/
def dval (op : AOp) (e : Env) (H : Heap) : Option (Value × Heap) :=
  match op with
  | .call f args => (evs e args).bind fun vs => call f vs H
  | .callv f args => match ev e f with
    | some (.func (.func i) first captured) => (evs e args).bind fun vs => call i (first.toList ++ vs ++ captured.toList) H
    | _ => none
  | op => aop op e H

def does (o : AOper) (e : Env) (H : Heap) : Option (Env × Heap) := (dval call o.op e H).map fun (v, H') => (putE e o.dst v, H')

/-- Is the operation carried out? -/
def want (o : AOper) (e : Env) : Option Bool :=
  match o.guard with
  | none => some true
  | some (t, b) => match lk e t with
    | some (.bool c) => some (c == b)
    | some _ => some false
    | none => none

def step (o : AOper) (e : Env) (H : Heap) : Option (Env × Heap) :=
  match want o e with
  | some true => does call o e H
  | some false => some (putE e o.dst undef, H)
  | none => none

def aops : List AOper → Env → Heap → Option (Env × Heap)
  | [], e, H => some (e, H)
  | o :: r, e, H => (step call o e H).bind fun (e, H) => aops r e H

/-- The operation gives the same value in these memories, and leaves them as they are. -/
def again (o : AOp) (e : Env) (v : Value) : List Heap → Bool
  | [] => true
  | H :: r => (match aop o e H with
    | some (v', _) => sameV 9 v v'
    | none => false) && again o e v r

def okBack (d : DOper) (hist : List Heap) (e : Env) (H : Heap) : Bool :=
  decide (d.back = 0) || want d.o e == some false || (match aop d.o.op e H with | some (v, _) => again d.o.op e v (hist.take d.back) | none => false)

def aopsD : List DOper → List Heap → Env → Heap → Option (Env × Heap)
  | [], _, e, H => some (e, H)
  | d :: r, hist, e, H => (step call d.o e H).bind fun (e', H') =>
    if okBack d hist e H then
      aopsD r (if d.eff then H :: hist else hist) e' H'
    else none

def keep (e : Env) : List Nat → Env
  | [] => []
  | t :: r => match lk e t with
    | some v => (t, v) :: keep e r
    | none => keep e r

inductive AExit where
  | normal | ret | exit (id : Nat)
  deriving DecidableEq

abbrev Out := Option (AExit × Env × Heap)

def iter (f : Env → Heap → Out) : Nat → Env → Heap → Out
  | 0, _, _ => none
  | n + 1, e, H => (f e H).bind fun (x, e, H) => match x with
    | .normal => iter f n e H
    | x => some (x, e, H)

def ax (n : Nat) : ACode → Env → Heap → Out
  | .skip, e, H => some (.normal, e, H)
  | .ret, e, H => some (.ret, e, H)
  | .exit id, e, H => some (.exit id, e, H)
  | .seq a b, e, H => (ax n a e H).bind fun (x, e, H) => match x with
    | .normal => ax n b e H
    | x => some (x, e, H)
  | .cond c a b, e, H => match ev e c with
    | some (.bool true) => ax n a e H
    | some (.bool false) => ax n b e H
    | _ => none
  | .block id a, e, H => (ax n a e H).map fun (x, e, H) => (if x = .exit id then .normal else x, e, H)
  | .loop a, e, H => iter (ax n a) n e H
  | .reg ops live, e, H => (aops call ops e H).map fun (e, H) => (.normal, keep e live, H)
  | .regd ops live, e, H => (aopsD call ops [] e H).map fun (e, H) => (.normal, keep e live, H)
end

def ares (e : Env) (H : Heap) : List ARes → Option (List Value)
  | [] => some []
  | .tmp t :: r => (lk e t).bind fun v => (ares e H r).map (v :: ·)
  | .cell t n :: r => (lk e t).bind fun a => (addrOf a).bind fun a => (hload H n a).bind fun v => (ares e H r).map (v :: ·)

def tup : List Value → Value
  | [v] => v
  | vs => .tuple vs.toArray

def argsE : Nat → List Value → Env
  | _, [] => []
  | i, v :: r => (i, v) :: argsE (i + 1) r

def fin (trunc : Bool) (n : Nat) (v : Value) (H : Heap) : Value × Heap :=
  if trunc && idsB 9 n v && (H.take n).all (blkB n) then (v, H.take n) else (v, H)

/-- A call. A function marked 'iso' that is given numbers, bools and strings alone is reckoned in a memory of its own. -/
def ac (tbl : Nat → Option AFn) : Nat → Nat → List Value → Heap → Option (Value × Heap)
  | 0, _, _, _ => none
  | n + 1, f, args, H => (tbl f).bind fun F =>
    if args.length ≤ F.ntmps then
      if F.iso && !H.isEmpty && args.all (constV 9) then
        (ac tbl n f args []).bind fun r => if constV 9 r.1 && r.2.isEmpty then some (r.1, H) else none
      else
      (ax (ac tbl n) n F.body (argsE 0 args) H).bind fun (x, e, H') =>
        match x with
        | .exit _ => none
        | _ => (ares e H' F.results).map fun vs => fin F.trunc H.length (tup vs) H'
    else none

end Go.Proofs.Ytejcabdejoameaa.AI

/- From the program's code to the interpreter's: types resolved once. -/
namespace Go.Proofs.Ytejcabdejoameaa.AI
open Go

section
variable (P : Program) (τ σ : Nat → Nat)

def cArg : Operand → Option Arg
  | .tmp t => some (.t t)
  | .const v => if constV 9 v then some (.c v) else none
  | .func f => if σ (τ f) = f then some (.f (τ f)) else none
  | .global _ => none

def cArgs : List Operand → Option (List Arg)
  | [] => some []
  | a :: r => (cArg τ σ a).bind fun a => (cArgs r).bind fun r => some (a :: r)

def cOpt : Option Operand → Option (Option Arg)
  | none => some none
  | some a => (cArg τ σ a).map some

def isAggT (t : TypeId) : Option Bool :=
  match P.underlying t with
  | some (.struct _) | some (.array _ _) => some true
  | some _ => some false
  | none => none

def szT (t : TypeId) : Option Nat := (P.info? t).map (·.size)

/-- None: one cell. -/
def shT (t : TypeId) : Option (Option Nat) :=
  match isAggT P t with
  | some true => (szT P t).map some
  | some false => some none
  | none => none

def zeroT (t : TypeId) : Option Value := (P.info? t).bind (·.zero)

def tysF (f : TypeId → Option (List Ty)) : Nat → List Field → Option (List Ty)
  | _, [] => some []
  | n, fd :: r => if fd.name = "_" ∨ fd.offset ≠ n then none else (f fd.type).bind fun a => (shT P fd.type).bind fun sh => if a.length = sh.getD 1 then (tysF f (n + a.length) r).map (a ++ ·) else none

def tysOf : Nat → TypeId → Option (List Ty)
  | 0, _ => none
  | d + 1, t => match P.underlying t with
    | some .bool => some [.bool]
    | some (.int _) => some [.int]
    | some .string => some [.str]
    | some (.struct fs) => if P.stoodInHeld t = false then tysF P (tysOf d) 0 fs.toList else none
    | _ => none

def cParts (place : Nat → Option (Nat × Nat)) : List (Nat × Operand) → Option (List (Nat × Nat × Arg))
  | [] => some []
  | (i, x) :: r => (place i).bind fun (o, s) => (cArg τ σ x).bind fun a => (cParts place r).bind fun r => some ((o, s, a) :: r)

def cOp (op : Op) : Option AOp :=
  match op with
  | .move x | .assign x => (cArg τ σ x).map .mov
  | .pick c a b => (cArg τ σ c).bind fun c => (cArg τ σ a).bind fun a => (cArg τ σ b).bind fun b => some (.pick c a b)
  | .binOp op t x y _ => (cArg τ σ x).bind fun x => (cArg τ σ y).bind fun y =>
      match P.underlying t, op with
      | some (.int _), _ => some (.bin op x y)
      | some .string, _ => some (.bin op x y)
      | some .bool, .eql => some (.eqb false x y)
      | some .bool, .neq => some (.eqb true x y)
      | some (.pointer _), .eql => some (.eqp false x y)
      | some (.pointer _), .neq => some (.eqp true x y)
      | some (.struct _), .eql => if P.eqGuardType P.depth t = false then (tysOf P 9 t).map fun tys => .eqs false tys x y else none
      | some (.struct _), .neq => if P.eqGuardType P.depth t = false then (tysOf P 9 t).map fun tys => .eqs true tys x y else none
      | _, _ => none
  | .unOp op _ x => (cArg τ σ x).map (.un op)
  | .convert s d x => (cArg τ σ x).bind fun a =>
      match P.underlying s, P.underlying d with
      | some (.int _), some (.int k) => some (.cvI k a)
      | some (.int _), some .string => some (.cvIS a)
      | some .string, some .string => some (.cvSS a)
      | some .string, some (.slice e) => match P.underlying e with
        | some (.int .u8) => some (.cvSB a)
        | _ => none
      | some (.slice e), some .string => match P.underlying e with
        | some (.int .u8) => some (.cvBS a)
        | _ => none
      | _, _ => none
  | .load t a => (cArg τ σ a).bind fun a => (shT P t).bind fun n => if n = some 0 then none else some (.load n a)
  | .store t a x => (cArg τ σ a).bind fun a => (cArg τ σ x).bind fun x => (szT P t).bind fun n => if n = 0 then none else some (.store n a x)
  | .nilCheck x => (cArg τ σ x).map .nilck
  | .fieldAddr s x f => match P.underlying s with
    | some (.struct fs) => (fs[f]?).bind fun fd => (szT P fd.type).bind fun n => if n = 0 then none else (cArg τ σ x).map (.faddr fd.offset)
    | _ => none
  | .indexAddr t x i => (cArg τ σ x).bind fun x => (cArg τ σ i).bind fun i =>
      match P.underlying t with
      | some (.array n e) => (szT P e).bind fun sz => if sz = 0 then none else some (.iaddrA n sz x i)
      | some (.slice e) => (szT P e).bind fun sz => if sz = 0 then none else some (.iaddrS sz x i)
      | _ => none
  | .index t x i => (cArg τ σ x).bind fun x => (cArg τ σ i).bind fun i =>
      match P.underlying t with
      | some (.array n e) => (shT P e).bind fun sh => (szT P e).bind fun sz => if sz = 0 ∨ sz ≠ sh.getD 1 then none else some (.idxA n sh x i)
      | some .string => some (.idxS x i)
      | _ => none
  | .field t x f => match P.underlying t with
    | some (.struct fs) => (fs[f]?).bind fun fd => (shT P fd.type).bind fun sh => (cArg τ σ x).map (.fld fd.offset sh)
    | _ => none
  | .extract x i => (cArg τ σ x).map (.ext i)
  | .alloc t => (zeroT P t).bind fun z => if constV 9 z then some (.new z.cells.toList) else none
  | .box _ x => (cArg τ σ x).map .box
  | .build t parts => (zeroT P t).bind fun z => if constV 9 z then
      match P.underlying t with
      | some (.struct fs) => (fs.toList.mapM fun f => (szT P f.type).map fun n => (f.offset, n)).bind fun pl => (cParts τ σ (pl[·]?) parts.toList).map (.build z.cells.toList)
      | some (.array _ e) => (szT P e).bind fun sz => (cParts τ σ (fun i => some (i * sz, sz)) parts.toList).map (.build z.cells.toList)
      | _ => none
      else none
  | .buildSlice t len parts => match P.underlying t with
    | some (.slice e) => (szT P e).bind fun sz => (zeroT P e).bind fun z => if constV 9 z ∧ len * sz ≤ 10000 ∧ z.cells.size = sz ∧ 0 < sz then
        (cParts τ σ (fun i => some (i * sz, sz)) parts.toList).map (.buildS sz len (List.replicate len z.cells.toList).flatten) else none
    | _ => none
  | .makeSlice t l c => match P.underlying t with
    | some (.slice e) => (P.info? e).bind fun i => (zeroT P e).bind fun z => if constV 9 z ∧ z.cells.size = i.size ∧ 0 < i.size then
        (cArg τ σ l).bind fun l => (cArg τ σ c).bind fun c => some (.mkS i.bytes z.cells.toList l c) else none
    | _ => none
  | .slice t x lo hi mx => (cArg τ σ x).bind fun x => (cOpt τ σ lo).bind fun lo => (cOpt τ σ hi).bind fun hi => (cOpt τ σ mx).bind fun mx =>
      match P.underlying t with
      | some .string => if mx.isNone then some (.slS x lo hi) else none
      | some (.slice e) => (szT P e).bind fun sz => if sz = 0 then none else some (.slL sz x lo hi mx)
      | some (.array n e) => (szT P e).bind fun sz => if mx.isNone ∧ sz ≠ 0 then some (.slA n sz x lo hi) else none
      | _ => none
  | .makeFunc (.func f) first captured => (cArgs τ σ first.toList).bind fun a => (cArgs τ σ captured.toList).bind fun b => if σ (τ f) = f then some (.mkF (τ f) a b) else none
  | .call { callee := .builtin b, args, argTypes } => (cArgs τ σ args.toList).bind fun as =>
      match b, as, argTypes.toList.map P.underlying with
      | .len, [x], [some .string] => some (.lenS x)
      | .len, [x], [some (.slice _)] => some (.lenL x)
      | .min, xs, _ => some (.minI xs)
      | .max, xs, _ => some (.maxI xs)
      | .append, [d, s], [some (.slice e), some (.slice e')] => (P.info? e).bind fun i => (szT P e').bind fun sz' => if i.size = 0 ∨ i.size ≠ sz' ∨ i.bytes = 0 then none else (zeroT P e).bind fun z => if z.cells.size = i.size then some (.app i.size i.bytes d s) else none
      | .append, [d, s], [some (.slice e), some .string] => (P.info? e).bind fun i => if i.size = 1 ∧ i.bytes ≠ 0 then (zeroT P e).bind fun z => if z.cells.size = 1 then some (.app i.size i.bytes d s) else none else none
      | .copy, [d, s], [some (.slice e), _] => (szT P e).bind fun sz => if sz = 0 then none else some (.copy sz d s)
      | _, _, _ => none
  | _ => none

def isCall : AOp → Bool
  | .call .. | .callv .. => true
  | _ => false

def cOpA (op : Op) : Option AOp :=
  match op with
  | .call { callee := .value (.func f), args, .. } => if σ (τ f) = f then (cArgs τ σ args.toList).map (.call (τ f)) else none
  | .call { callee := .value x, args, .. } => (cArg τ σ x).bind fun x => (cArgs τ σ args.toList).map (.callv x)
  | op => (cOp P τ σ op).bind fun r => if isCall r then none else some r

def cOper (ops : Array Oper) (o : Oper) : Option AOper :=
  (cOpA P τ σ o.op).bind fun op =>
  match o.guard with
  | none => some ⟨o.dst, none, op⟩
  | some (j, b) => match (ops[j]?).bind (·.dst) with
    | some t => some ⟨o.dst, some (t, b), op⟩
    | none => none

def cOpers (ops : Array Oper) : List Oper → Option (List AOper)
  | [] => some []
  | o :: r => (cOper P τ σ ops o).bind fun o => (cOpers ops r).bind fun r => some (o :: r)

/-- Operations that come to no memory. -/
def isPure : AOp → Bool
  | .mov _ | .pick .. | .bin .. | .eqs .. | .eqp .. | .eqb .. | .un .. | .cvI .. | .cvIS _ | .cvSS _ | .nilck _ | .faddr .. | .iaddrS .. | .iaddrA .. | .idxS .. | .idxA .. | .fld .. | .ext .. | .build .. | .slS .. | .slL .. | .mkF .. | .lenS _ | .lenL _ | .minI _ | .maxI _ => true
  | _ => false

/-- Operations that read memory alone. -/
def isRead : AOp → Bool
  | .load .. | .cvBS _ | .slA .. => true
  | _ => false

def argU : Arg → List Nat
  | .t n => [n]
  | _ => []
def optU : Option Arg → List Nat
  | some a => argU a
  | none => []
def opU : AOp → List Nat
  | .mov x | .un _ x | .cvI _ x | .cvIS x | .cvSS x | .cvSB x | .cvBS x | .load _ x | .nilck x | .faddr _ x | .fld _ _ x | .ext _ x | .box x | .lenS x | .lenL x => argU x
  | .pick c a b => argU c ++ argU a ++ argU b
  | .bin _ x y | .eqs _ _ x y | .eqp _ x y | .eqb _ x y | .store _ x y | .iaddrS _ x y | .iaddrA _ _ x y | .idxS x y | .idxA _ _ x y | .mkS _ _ x y | .app _ _ x y | .copy _ x y => argU x ++ argU y
  | .new _ => []
  | .build _ ps | .buildS _ _ _ ps => ps.flatMap fun x => argU x.2.2
  | .slS x a b | .slA _ _ x a b => argU x ++ optU a ++ optU b
  | .slL _ x a b c => argU x ++ optU a ++ optU b ++ optU c
  | .mkF _ a b => (a ++ b).flatMap argU
  | .minI xs | .maxI xs | .call _ xs => xs.flatMap argU
  | .callv f xs => argU f ++ xs.flatMap argU
def operU (o : AOper) : List Nat := opU o.op ++ (match o.guard with | some (t, _) => [t] | none => [])

/-- The operations that an operation waits for. -/
def direct (o : Oper) : List Nat := (o.after.toList.filter (Region.binds .any)).map (·.on)

def preOf (ops : List Oper) : List (List Nat) :=
  ops.foldl (fun acc o => acc ++ [(direct o ++ (direct o).flatMap fun k => acc.getD k []).eraseDups]) []

/-- How many effects stand between two places. -/
def cnt (eff : Nat → Bool) (q : Nat) : Nat → Nat
  | 0 => 0
  | p + 1 => cnt eff q p + if q < p ∧ eff p = true then 1 else 0

/-- Does an operation make a variable? Nothing else sees it before it is used. -/
def isAlloc (o : Oper) : Bool := o.guard.isNone && match o.op with | .alloc _ => true | _ => false

/-- May a variable be made earlier than in the interpreter's order? -/
def isFl (ops : Array Oper) (pre : List (List Nat)) (ord : List Nat) (ds : List DOper) (q : Nat) : Bool :=
  let n := ops.size
  let R := List.range n
  let at_ (p : Nat) : Nat := ord.getD p 0
  let op_ (p : Nat) : DOper := ds.getD p ⟨⟨none, none, .new []⟩, false, 0⟩
  let pr (i : Nat) : List Nat := pre.getD i []
  isAlloc (ops.getD (at_ q) default) && (op_ q).eff &&
  (match (op_ q).o.dst with
    | some t => R.all fun p => !(operU (op_ p).o).contains t || (decide (q < p) && R.all fun e => decide (q < e) || !(op_ e).eff || (pr (at_ p)).contains (at_ e))
    | none => false) &&
  (R.all fun p => decide (q ≤ p) || (op_ p).eff || isPure (op_ p).o.op || (pr (at_ q)).contains (at_ p) || R.any fun e => decide (p < e) && (decide (e < q) && ((op_ e).eff && !isAlloc (ops.getD (at_ e) default))))

/-- The order in which the interpreter takes a region whose order is open: any linear order serves that this test lets by. -/
def okD (ops : Array Oper) (pre : List (List Nat)) (ord : List Nat) (ds : List DOper) : Bool :=
  let n := ops.size
  let R := List.range n
  let at_ (p : Nat) : Nat := ord.getD p 0
  let op_ (p : Nat) : DOper := ds.getD p ⟨⟨none, none, .new []⟩, false, 0⟩
  let pr (i : Nat) : List Nat := pre.getD i []
  decide (ord.length = n) && decide (ds.length = n) && (R.all fun p => decide (at_ p < n)) && (R.all fun i => ord.contains i) &&
  (R.all fun i => (pr i).all fun k => (direct (ops.getD i default)).contains k || (direct (ops.getD i default)).any fun d => (pr d).contains k) &&
  (R.all fun p => (direct (ops.getD (at_ p) default)).all fun k => R.any fun q => decide (q < p) && decide (at_ q = k)) &&
  (R.all fun p => R.all fun q => decide (p = q) || (decide (at_ p ≠ at_ q) && ((op_ p).o.dst.isNone || decide ((op_ p).o.dst ≠ (op_ q).o.dst)) &&
    (match (op_ q).o.dst with
      | some t => !(operU (op_ p).o).contains t || (if q < p then (pr (at_ p)).contains (at_ q) else (pr (at_ q)).contains (at_ p))
      | none => true) &&
    (decide (q ≤ p) || !(op_ q).eff || isPure (op_ p).o.op || (pr (at_ q)).contains (at_ p) || isFl ops pre ord ds q) &&
    (decide (p ≤ q) || !(op_ q).eff || isPure (op_ p).o.op || (pr (at_ p)).contains (at_ q) || isFl ops pre ord ds p || (!(op_ p).eff && decide (cnt (fun x => (op_ x).eff) q p < (op_ p).back))))) &&
  (R.all fun p => (op_ p).eff || isPure (op_ p).o.op || isRead (op_ p).o.op)

variable (live : Nat → List Nat) (ordr : Nat → List (Nat × Nat)) (nt : Nat)

def dstOk (ops : List Oper) : Bool := ops.all fun o => match o.dst with | some t => decide (t < nt) | none => true

/-- Does an operation change memory? -/
def isEff (o : AOp) : Bool := !(isPure o || isRead o)

def permD (os : List AOper) : List (Nat × Nat) → List DOper
  | [] => []
  | (i, back) :: r => match os[i]? with
    | some o => ⟨o, isEff o.op, back⟩ :: permD os r
    | none => permD os r

def comp : Code → Option ACode
  | .skip => some .skip
  | .ret => some .ret
  | .exit id => some (.exit id)
  | .seq a b => (comp a).bind fun a => (comp b).bind fun b => some (.seq a b)
  | .cond c a b => (cArg τ σ c).bind fun c => (comp a).bind fun a => (comp b).bind fun b => some (.cond c a b)
  | .block id a => (comp a).map (.block id)
  | .loop a => (comp a).map .loop
  | .region id ops draw => (cOpers P τ σ ops ops.toList).bind fun os =>
    if dstOk nt ops.toList then
      if draw then
        let ord := ordr id
        let ds := permD os ord
        if okD ops (preOf ops.toList) (ord.map (·.1)) ds then some (.regd ds (live id)) else none
      else some (.reg os (live id))
    else none
  | _ => none

def cRes : List ResultVar → Option (List ARes)
  | [] => some []
  | .tmp t :: r => (cRes r).map (.tmp t :: ·)
  | .cell a t :: r => (shT P t).bind fun n => if n = some 0 then none else (cRes r).map (.cell a n :: ·)

def compF (fn : Func) (trunc iso : Bool) : Option AFn :=
  if fn.name == "runtime.NumGoroutine" then none else
  (fn.body).bind fun c => (comp P τ σ live ordr fn.ntmps c).bind fun b => (cRes P fn.results.toList).map fun r => ⟨fn.ntmps, b, r, trunc, iso⟩
end

end Go.Proofs.Ytejcabdejoameaa.AI

/- What abstract values and memory stand for. -/
namespace Go.Proofs.Ytejcabdejoameaa.AI
open Go

/-- Where an abstract block lies: its block, where it begins there, and how many cells it has (none: memory that is only read). -/
structure Bnd where
  blk : Nat
  off : Nat
  size : Option Nat

abbrev Map := Nat → Option Bnd

inductive VR (σ : Nat → Nat) (B : Map) : Value → Value → Prop where
  | atom (v : Value) : atom v = true → VR σ B v v
  | ptr (i o : Nat) (p : Bnd) : B i = some p → VR σ B (.pointer (some ⟨i, o, none⟩)) (.pointer (some ⟨p.blk, p.off + o, none⟩))
  | slice (i o n z c : Nat) (p : Bnd) : B i = some p → n ≤ c → (∀ s, p.size = some s → o + c * z ≤ s) →
      VR σ B (.slice (some ⟨i, o, none⟩) n z) (.slice (some ⟨p.blk, p.off + o, none⟩) n c)
  | empty (i o z c : Nat) (p : Bnd) (a : Option Addr) : B i = some p → p.size = none → VR σ B (.slice (some ⟨i, o, none⟩) 0 z) (.slice a 0 c)
  /-- A slice that shows nothing: where it lies is not known. -/
  | void (c : Nat) (a : Option Addr) : VR σ B (.slice none 0 1) (.slice a 0 c)
  | agg (cs cs' : Array Value) : cs.toList.length = cs'.toList.length → (∀ (j : Nat) (x x' : Value), cs.toList[j]? = some x → cs'.toList[j]? = some x' → VR σ B x x') → VR σ B (.agg cs) (.agg cs')
  | tuple (cs cs' : Array Value) : cs.toList.length = cs'.toList.length → (∀ (j : Nat) (x x' : Value), cs.toList[j]? = some x → cs'.toList[j]? = some x' → VR σ B x x') → VR σ B (.tuple cs) (.tuple cs')
  | func (i : Nat) (f c f' c' : Array Value) : f.toList.length = f'.toList.length → (∀ (j : Nat) (x x' : Value), f.toList[j]? = some x → f'.toList[j]? = some x' → VR σ B x x') →
      c.toList.length = c'.toList.length → (∀ (j : Nat) (x x' : Value), c.toList[j]? = some x → c'.toList[j]? = some x' → VR σ B x x') → VR σ B (.func (.func i) f c) (.func (.func (σ i)) f' c')

def VRs (σ : Nat → Nat) (B : Map) (l l' : List Value) : Prop := l.length = l'.length ∧ ∀ (j : Nat) (x x' : Value), l[j]? = some x → l'[j]? = some x' → VR σ B x x'

def Ext (B B' : Map) : Prop := ∀ i p, B i = some p → B' i = some p
theorem Ext.refl (B : Map) : Ext B B := fun _ _ h => h
theorem Ext.trans {A B C : Map} (h : Ext A B) (k : Ext B C) : Ext A C := fun i p hp => k i p (h i p hp)

section
variable {σ : Nat → Nat} {B B' : Map}

theorem VR.mono (h : Ext B B') {v v' : Value} (r : VR σ B v v') : VR σ B' v v' := by
  induction r with
  | atom v ha => exact .atom v ha
  | ptr i o p hp => exact .ptr i o p (h i p hp)
  | slice i o n z c p hp hn hs => exact .slice i o n z c p (h i p hp) hn hs
  | empty i o z c p a hp hs => exact .empty i o z c p a (h i p hp) hs
  | void c a => exact .void c a
  | agg cs cs' hl _ ih => exact .agg cs cs' hl fun j x x' hx hx' => ih j x x' hx hx'
  | tuple cs cs' hl _ ih => exact .tuple cs cs' hl fun j x x' hx hx' => ih j x x' hx hx'
  | func i f c f' c' h1 _ h2 _ i1 i2 => exact .func i f c f' c' h1 (fun j x x' hx hx' => i1 j x x' hx hx') h2 (fun j x x' hx hx' => i2 j x x' hx hx')

theorem VRs.mono (h : Ext B B') {l l' : List Value} (r : VRs σ B l l') : VRs σ B' l l' := ⟨r.1, fun j x x' a b => (r.2 j x x' a b).mono h⟩
theorem VRs.nil : VRs σ B [] [] := ⟨rfl, fun j x x' h => by simp at h⟩
theorem VRs.cons {v v' : Value} {l l' : List Value} (h : VR σ B v v') (r : VRs σ B l l') : VRs σ B (v :: l) (v' :: l') := by
  refine ⟨by simp [r.1], fun j x x' hx hx' => ?_⟩
  cases j with
  | zero => simp at hx hx'; subst hx; subst hx'; exact h
  | succ j => exact r.2 j x x' (by simpa using hx) (by simpa using hx')
theorem VRs.of_cons {v : Value} {l l' : List Value} (r : VRs σ B (v :: l) l') : ∃ v' m, l' = v' :: m ∧ VR σ B v v' ∧ VRs σ B l m := by
  cases l' with
  | nil => have := r.1; simp at this
  | cons v' m =>
    refine ⟨v', m, rfl, r.2 0 v v' rfl rfl, ⟨by have := r.1; simpa using this, fun j x x' hx hx' => r.2 (j + 1) x x' (by simpa using hx) (by simpa using hx')⟩⟩
theorem VRs.get {l l' : List Value} (r : VRs σ B l l') {j : Nat} {x : Value} (h : l[j]? = some x) : ∃ x', l'[j]? = some x' ∧ VR σ B x x' := by
  have hj : j < l'.length := by have := (List.getElem?_eq_some_iff.1 h).1; have := r.1; omega
  exact ⟨l'[j], List.getElem?_eq_getElem hj, r.2 j x _ h (List.getElem?_eq_getElem hj)⟩
theorem VRs.append {a a' b b' : List Value} (r : VRs σ B a a') (s : VRs σ B b b') : VRs σ B (a ++ b) (a' ++ b') := by
  refine ⟨by simp [r.1, s.1], fun j x x' hx hx' => ?_⟩
  rw [List.getElem?_append] at hx hx'
  rw [← r.1] at hx'
  split at hx
  · rw [if_pos ‹_›] at hx'; exact r.2 j x x' hx hx'
  · rw [if_neg ‹_›] at hx'; exact s.2 _ x x' hx hx'
theorem VRs.drop {a a' : List Value} (r : VRs σ B a a') (n : Nat) : VRs σ B (a.drop n) (a'.drop n) :=
  ⟨by simp [r.1], fun j x x' hx hx' => r.2 (n + j) x x' (by simpa using hx) (by simpa using hx')⟩
theorem VRs.take {a a' : List Value} (r : VRs σ B a a') (n : Nat) : VRs σ B (a.take n) (a'.take n) := by
  refine ⟨by simp [r.1], fun j x x' hx hx' => ?_⟩
  rw [List.getElem?_take] at hx hx'
  split at hx
  · rw [if_pos ‹_›] at hx'; exact r.2 j x x' hx hx'
  · simp at hx
theorem VRs.set {a a' : List Value} (r : VRs σ B a a') {v v' : Value} (h : VR σ B v v') (n : Nat) : VRs σ B (a.set n v) (a'.set n v') := by
  refine ⟨by simp [r.1], fun j x x' hx hx' => ?_⟩
  rw [List.getElem?_set] at hx hx'
  split at hx
  · rename_i e
    rw [if_pos e] at hx'
    split at hx
    · split at hx'
      · simp at hx hx'; subst hx; subst hx'; exact h
      · simp at hx'
    · simp at hx
  · rename_i e
    rw [if_neg e] at hx'
    exact r.2 j x x' hx hx'
theorem VRs.splice {vs vs' : List Value} (s : VRs σ B vs vs') : ∀ {a a' : List Value} (o : Nat), VRs σ B a a' → VRs σ B (AI.splice a o vs) (AI.splice a' o vs') := by
  induction vs generalizing vs' with
  | nil => intro a a' o r; have : vs' = [] := by have := s.1; simpa using this.symm
           subst this; exact r
  | cons v l ih =>
    obtain ⟨v', m, rfl, h, s'⟩ := s.of_cons
    intro a a' o r
    exact ih s' (o + 1) (r.set h o)
theorem VRs.of_flatten_replicate {l l' : List Value} (r : VRs σ B l l') : ∀ n, VRs σ B (List.replicate n l).flatten (List.replicate n l').flatten
  | 0 => VRs.nil
  | n + 1 => by simpa [List.replicate_succ] using r.append (VRs.of_flatten_replicate r n)

theorem VR.agg' {cs cs' : Array Value} (h : VRs σ B cs.toList cs'.toList) : VR σ B (.agg cs) (.agg cs') := .agg cs cs' h.1 h.2
theorem VR.tuple' {cs cs' : Array Value} (h : VRs σ B cs.toList cs'.toList) : VR σ B (.tuple cs) (.tuple cs') := .tuple cs cs' h.1 h.2

theorem VR.const : ∀ (d : Nat) (v : Value), constV d v = true → VR σ B v v := by
  intro d
  induction d with
  | zero => intro v h; simp [constV] at h
  | succ d ih =>
    intro v h
    have key : ∀ cs : Array Value, cs.toList.all (constV d) = true → VRs σ B cs.toList cs.toList := fun cs hc =>
      ⟨rfl, fun j x x' hx hx' => by
        rw [hx] at hx'; injection hx' with e; subst e
        exact ih x (List.all_eq_true.1 hc x (List.mem_of_getElem? hx))⟩
    cases v <;> first | exact .agg' (key _ (by simpa only [constV] using h)) | exact .tuple' (key _ (by simpa only [constV] using h)) | exact .atom _ (by simpa only [constV] using h)

theorem VRs.const {l : List Value} (h : l.all (constV 9) = true) : VRs σ B l l :=
  ⟨rfl, fun j x x' hx hx' => by rw [hx] at hx'; injection hx' with e; subst e; exact VR.const 9 x (List.all_eq_true.1 h x (List.mem_of_getElem? hx))⟩

def cut (n : Nat) (B : Map) : Map := fun i => if i < n then B i else none

theorem VR.cut (n : Nat) : ∀ (d : Nat) {v v' : Value}, idsB d n v = true → VR σ B v v' → VR σ (AI.cut n B) v v' := by
  intro d
  induction d with
  | zero => intro v v' h; simp [idsB] at h
  | succ d ih =>
    intro v v' h r
    have key : ∀ {cs cs' : List Value}, cs.all (idsB d n) = true → (∀ (j : Nat) (x x' : Value), cs[j]? = some x → cs'[j]? = some x' → VR σ B x x') → ∀ (j : Nat) (x x' : Value), cs[j]? = some x → cs'[j]? = some x' → VR σ (AI.cut n B) x x' :=
      fun hc hr j x x' hx hx' => ih (List.all_eq_true.1 hc x (List.mem_of_getElem? hx)) (hr j x x' hx hx')
    cases r with
    | atom v ha => exact .atom _ ha
    | ptr i o p hp => exact .ptr i o p (by have : i < n := by simpa [idsB] using h
                                           simp [AI.cut, this, hp])
    | slice i o m z c p hp hn hs => exact .slice i o m z c p (by have : i < n := by simpa [idsB] using h
                                                                 simp [AI.cut, this, hp]) hn hs
    | empty i o z c p a hp hs => exact .empty i o z c p a (by have : i < n := by simpa [idsB] using h
                                                              simp [AI.cut, this, hp]) hs
    | void c a => exact .void c a
    | agg cs cs' hl hr => exact .agg _ _ hl (key (by simpa only [idsB] using h) hr)
    | tuple cs cs' hl hr => exact .tuple _ _ hl (key (by simpa only [idsB] using h) hr)
    | func i f c f' c' h1 r1 h2 r2 =>
      have hb : f.toList.all (idsB d n) = true ∧ c.toList.all (idsB d n) = true := by simpa only [idsB, Bool.and_eq_true] using h
      exact .func i _ _ _ _ h1 (key hb.1 r1) h2 (key hb.2 r2)

/-- One-cell values stand for one-cell values. -/
theorem VR.one {v v' : Value} (r : VR σ B v v') (h : AI.one v = true) : v'.oneCell' = true := by
  cases r with
  | atom v ha => cases v <;> first | rfl | simp [AI.one] at h
  | agg => simp [AI.one] at h
  | tuple => simp [AI.one] at h
  | _ => rfl
theorem VR.cells {v v' : Value} (r : VR σ B v v') : VRs σ B v.cells.toList v'.cells.toList := by
  have single : ∀ {a b : Value}, VR σ B a b → VRs σ B [a] [b] := fun h => VRs.nil.cons h
  cases r with
  | agg cs cs' hl hr => exact ⟨hl, hr⟩
  | atom v ha => cases v <;> first | exact single (.atom _ ha) | simp [AI.atom] at ha
  | tuple cs cs' hl hr => exact single (.tuple cs cs' hl hr)
  | ptr i o p hp => exact single (.ptr i o p hp)
  | slice i o n z c p hp hn hs => exact single (.slice i o n z c p hp hn hs)
  | empty i o z c p a hp hs => exact single (.empty i o z c p a hp hs)
  | void c a => exact single (.void c a)
  | func i f c f' c' h1 r1 h2 r2 => exact single (.func i f c f' c' h1 r1 h2 r2)

end

theorem splice_length (vs : List Value) : ∀ (l : List Value) (o : Nat), (splice l o vs).length = l.length := by
  induction vs with
  | nil => intro l o; rfl
  | cons v r ih => intro l o; simp [splice, ih]

theorem splice_append_left (vs : List Value) : ∀ (l m : List Value) (o : Nat), o + vs.length ≤ l.length → splice (l ++ m) o vs = splice l o vs ++ m := by
  induction vs with
  | nil => intro l m o _; rfl
  | cons v r ih =>
    intro l m o h
    simp only [zal] at h
    simp only [splice]
    rw [List.set_append_left _ _ (by omega), ih _ _ _ (by simp; omega)]

end Go.Proofs.Ytejcabdejoameaa.AI

/- How an abstract memory lies in the machine's, and what keeps it there. -/
namespace Go.Proofs.Ytejcabdejoameaa.AI
open Go

structure HR (σ : Nat → Nat) (base : Nat) (B : Map) (H : Heap) (w : World) : Prop where
  rw : ∀ (i : Nat) (b : Blk), hget H i = some b → b.rw = true → ∃ (g f z : Nat) (cs : List Value) (ty : TypeId) (fr : Nat × Nat),
    B i = some ⟨g, f, some z⟩ ∧ base ≤ g ∧ w.heap[g]? = some (.cells ⟨cs⟩ ty fr) ∧ cs.length = f + z ∧ (∀ o, o < cs.length → ¬ (fr.1 ≤ o ∧ o < fr.2)) ∧
      b.cells.length ≤ z ∧ VRs σ B b.cells ((cs.drop f).take b.cells.length)
  ro : ∀ (i : Nat) (b : Blk), hget H i = some b → b.rw = false → ∃ g o, B i = some ⟨g, o, none⟩ ∧ g < base ∧
    ∀ (j : Nat) (x : Value), b.cells[j]? = some x → ∃ x', w.cell? ⟨g, o + j, none⟩ = some x' ∧ VR σ B x x'
  inj : ∀ (i j : Nat) (b c : Blk) (p q : Bnd), hget H i = some b → hget H j = some c → b.rw = true → c.rw = true → B i = some p → B j = some q → p.blk = q.blk → i = j
  dom : ∀ (i : Nat) (p : Bnd), B i = some p → i < H.length
  big : base ≤ w.heap.size

/-- The machine's blocks that may be written. -/
def Mp (B : Map) (H : Heap) (g : Nat) : Prop := ∃ (i : Nat) (b : Blk) (p : Bnd), hget H i = some b ∧ b.rw = true ∧ B i = some p ∧ p.blk = g

structure Stp (B : Map) (H : Heap) (w : World) (B' : Map) (H' : Heap) (w' : World) : Prop where
  ext : Ext B B'
  os : w'.os = w.os
  tape : w'.tape = w.tape
  output : w'.output = w.output
  size : w.heap.size ≤ w'.heap.size
  keep : ∀ g, g < w.heap.size → ¬ Mp B H g → w'.heap[g]? = w.heap[g]?
  own : ∀ g, Mp B' H' g → Mp B H g ∨ w.heap.size ≤ g

theorem Stp.refl (B : Map) (H : Heap) (w : World) : Stp B H w B H w := ⟨.refl _, rfl, rfl, rfl, Nat.le_refl _, fun _ _ _ => rfl, fun _ h => .inl h⟩
theorem Stp.trans {B B1 B2 : Map} {H H1 H2 : Heap} {w w1 w2 : World} (h : Stp B H w B1 H1 w1) (k : Stp B1 H1 w1 B2 H2 w2) : Stp B H w B2 H2 w2 := by
  refine ⟨h.ext.trans k.ext, k.os.trans h.os, k.tape.trans h.tape, k.output.trans h.output, Nat.le_trans h.size k.size, fun g hg hm => ?_, fun g hm => ?_⟩
  · rw [k.keep g (Nat.lt_of_lt_of_le hg h.size) (fun m => by rcases h.own g m with m' | m'; exact hm m'; omega)]
    exact h.keep g hg hm
  · rcases k.own g hm with m | m
    · exact h.own g m
    · have := h.size; exact .inr (by omega)

theorem hget_lt {H : Heap} {i : Nat} {b : Blk} (h : hget H i = some b) : i < H.length := by
  unfold hget at h
  cases hi : H[i]? with
  | none => simp [hi] at h
  | some x => exact (List.getElem?_eq_some_iff.1 hi).1

section
variable {σ : Nat → Nat} {base : Nat} {B : Map} {H : Heap} {w : World}

/-- Only draws. -/
theorem HR.same {w' : World} (h : HR σ base B H w) (e : w'.heap = w.heap) : HR σ base B H w' := by
  refine ⟨fun i b hi hb => ?_, fun i b hi hb => ?_, h.inj, h.dom, by rw [e]; exact h.big⟩
  · rw [e]; exact h.rw i b hi hb
  · have : ∀ a, w'.cell? a = w.cell? a := fun a => by simp [World.cell?, e]
    simpa only [this] using h.ro i b hi hb
theorem Stp.drawn (B : Map) (H : Heap) (w : World) (n : Nat) : Stp B H w B H { w with drawn := n } := ⟨.refl _, rfl, rfl, rfl, Nat.le_refl _, fun _ _ _ => rfl, fun _ h => .inl h⟩

theorem HR.cell (h : HR σ base B H w) {i : Nat} {b : Blk} (hi : hget H i = some b) : ∃ p, B i = some p ∧
    ∀ (j : Nat) (x : Value), b.cells[j]? = some x → ∃ x', w.cell? ⟨p.blk, p.off + j, none⟩ = some x' ∧ VR σ B x x' := by
  cases hb : b.rw with
  | false =>
    obtain ⟨g, o, e, _, hc⟩ := h.ro i b hi hb
    exact ⟨_, e, hc⟩
  | true =>
    obtain ⟨g, f, z, cs, ty, fr, e, _, hg, hl, _, hle, hv⟩ := h.rw i b hi hb
    refine ⟨_, e, fun j x hx => ?_⟩
    obtain ⟨x', hx', r⟩ := hv.get hx
    refine ⟨x', ?_, r⟩
    have : cs[f + j]? = some x' := by
      rw [List.getElem?_take] at hx'
      split at hx'
      · simpa using hx'
      · simp at hx'
    simpa [World.cell?, hg] using this

/-- Cells that lie behind one another. -/
theorem HR.cells (h : HR σ base B H w) {i : Nat} {b : Blk} (hi : hget H i = some b) {p : Bnd} (hp : B i = some p) (o n : Nat) (hn : o + n ≤ b.cells.length) :
    ∃ vs, VRs σ B ((b.cells.drop o).take n) vs ∧ vs.length = n ∧ ∀ (j : Nat) (v : Value), vs[j]? = some v → w.cell? ⟨p.blk, p.off + o + j, none⟩ = some v := by
  obtain ⟨p', hp', hc⟩ := h.cell hi
  rw [hp] at hp'; injection hp' with e; subst e
  refine ⟨(List.range n).map fun j => (w.cell? ⟨p.blk, p.off + o + j, none⟩).getD undef, ⟨by simp; omega, fun j x x' hx hx' => ?_⟩, by simp, fun j v hv => ?_⟩
  · rw [List.getElem?_take] at hx
    split at hx
    · rename_i hj
      rw [List.getElem?_drop] at hx
      obtain ⟨y, hy, r⟩ := hc (o + j) x hx
      rw [List.getElem?_map, List.getElem?_range hj] at hx'
      simp only [zah, Nat.add_assoc, hy, Option.getD_some, Option.some.injEq] at hx'
      exact hx' ▸ r
    · simp at hx
  · have hj : j < n := by have := (List.getElem?_eq_some_iff.1 hv).1; simpa using this
    have hlt : o + j < b.cells.length := by omega
    obtain ⟨y, hy, _⟩ := hc (o + j) _ (List.getElem?_eq_getElem hlt)
    rw [List.getElem?_map, List.getElem?_range hj] at hv
    simp only [zah, Nat.add_assoc, hy, Option.getD_some, Option.some.injEq] at hv
    rw [Nat.add_assoc, hy, hv]

def bind1 (B : Map) (n : Nat) (p : Bnd) : Map := fun i => if i = n then some p else B i

theorem ext_bind1 (h : HR σ base B H w) (p : Bnd) : Ext B (bind1 B H.length p) := fun i q hq => by
  have := h.dom i q hq
  simp [bind1, Nat.ne_of_lt this, hq]

theorem hget_append_lt {H : Heap} {x : Option Blk} {i : Nat} (h : i < H.length) : hget (H ++ [x]) i = hget H i := by
  simp [hget, List.getElem?_append_left h]
theorem ydu {H : Heap} {b : Blk} : hget (H ++ [some b]) H.length = some b := by simp [hget]
theorem hget_append {H : Heap} {b c : Blk} {i : Nat} (h : hget (H ++ [some b]) i = some c) : (i < H.length ∧ hget H i = some c) ∨ (i = H.length ∧ c = b) := by
  have := hget_lt h
  simp at this
  by_cases hi : i < H.length
  · exact .inl ⟨hi, by rwa [hget_append_lt hi] at h⟩
  · have e : i = H.length := by omega
    subst e
    rw [ydu] at h
    exact .inr ⟨rfl, by injection h with h; exact h.symm⟩

/-- A new block. -/
theorem HR.alloc (h : HR σ base B H w) {w' : World} {cs : List Value} {ty : TypeId} {fr : Nat × Nat} {vs : List Value}
    (hw : w'.heap = w.heap.push (.cells ⟨cs⟩ ty fr)) (ho : w'.os = w.os) (ht : w'.tape = w.tape) (hp : w'.output = w.output)
    (hf : ∀ o, o < cs.length → ¬ (fr.1 ≤ o ∧ o < fr.2)) (hl : vs.length ≤ cs.length) (hv : VRs σ B vs (cs.take vs.length)) :
    HR σ base (bind1 B H.length ⟨w.heap.size, 0, some cs.length⟩) (H ++ [some ⟨true, vs⟩]) w' ∧
    Stp B H w (bind1 B H.length ⟨w.heap.size, 0, some cs.length⟩) (H ++ [some ⟨true, vs⟩]) w' := by
  have hx := ext_bind1 h ⟨w.heap.size, 0, some cs.length⟩
  have hold : ∀ g, g < w.heap.size → w'.heap[g]? = w.heap[g]? := fun g hg => by rw [hw, Array.getElem?_push, if_neg (Nat.ne_of_lt hg)]
  have hnew : w'.heap[w.heap.size]? = some (.cells ⟨cs⟩ ty fr) := by rw [hw]; simp
  have hsz : w'.heap.size = w.heap.size + 1 := by rw [hw]; simp
  have hme : bind1 B H.length ⟨w.heap.size, 0, some cs.length⟩ H.length = some ⟨w.heap.size, 0, some cs.length⟩ := by simp [bind1]
  have hlt : ∀ g x, w.heap[g]? = some x → g < w.heap.size := fun g x hg => (Array.getElem?_eq_some_iff.1 hg).1
  refine ⟨⟨fun i b hi hb => ?_, fun i b hi hb => ?_, fun i j b c p q hi hj hb hc hpi hqj he => ?_, fun i p hi => ?_, by rw [hsz]; have := h.big; omega⟩, ⟨hx, ho, ht, hp, by omega, fun g hg _ => hold g hg, fun g hm => ?_⟩⟩
  · rcases hget_append hi with ⟨hi', hi⟩ | ⟨rfl, rfl⟩
    · obtain ⟨g, f, z, cs', ty', fr', e, hb', hg, hl', hfr, hle, hv'⟩ := h.rw i b hi hb
      exact ⟨g, f, z, cs', ty', fr', hx i _ e, hb', by rw [hold g (hlt g _ hg)]; exact hg, hl', hfr, hle, hv'.mono hx⟩
    · exact ⟨w.heap.size, 0, cs.length, cs, ty, fr, hme, h.big, hnew, by simp, hf, hl, by simpa using hv.mono hx⟩
  · rcases hget_append hi with ⟨hi', hi⟩ | ⟨rfl, rfl⟩
    · obtain ⟨g, o, e, hlt', hc⟩ := h.ro i b hi hb
      refine ⟨g, o, hx i _ e, hlt', fun j x hj => ?_⟩
      obtain ⟨x', hx', r⟩ := hc j x hj
      exact ⟨x', by rw [World.cell?_of_block (w := w) (hold g (Nat.lt_of_lt_of_le hlt' h.big))]; exact hx', r.mono hx⟩
    · simp at hb
  · rcases hget_append hi with ⟨hi', hi⟩ | ⟨rfl, rfl⟩ <;> rcases hget_append hj with ⟨hj', hj⟩ | ⟨rfl, rfl⟩
    · simp only [bind1, Nat.ne_of_lt hi', Nat.ne_of_lt hj', if_false] at hpi hqj
      exact h.inj i j b c p q hi hj hb hc hpi hqj he
    · obtain ⟨g, f, z, cs', ty', fr', e, _, hg, _⟩ := h.rw i b hi hb
      simp only [bind1, Nat.ne_of_lt hi', if_false] at hpi
      rw [e] at hpi; injection hpi with hpi; subst hpi
      rw [hme] at hqj; injection hqj with hqj; subst hqj
      have := hlt g _ hg
      simp at he; omega
    · obtain ⟨g, f, z, cs', ty', fr', e, _, hg, _⟩ := h.rw j c hj hc
      simp only [bind1, Nat.ne_of_lt hj', if_false] at hqj
      rw [e] at hqj; injection hqj with hqj; subst hqj
      rw [hme] at hpi; injection hpi with hpi; subst hpi
      have := hlt g _ hg
      simp at he; omega
    · rfl
  · simp only [bind1] at hi
    simp only [zai, List.length_singleton]
    split at hi
    · omega
    · have := h.dom i p hi; omega
  · obtain ⟨i, b, p, hi, hb, hpi, rfl⟩ := hm
    rcases hget_append hi with ⟨hi', hi⟩ | ⟨rfl, rfl⟩
    · simp only [bind1, Nat.ne_of_lt hi', if_false] at hpi
      exact .inl ⟨i, b, p, hi, hb, hpi, rfl⟩
    · rw [hme] at hpi; injection hpi with hpi; subst hpi
      exact .inr (Nat.le_refl _)

theorem yeo {H : Heap} {x : Option Blk} {i j : Nat} (h : i ≠ j) : hget (H.set i x) j = hget H j := by
  simp [hget, List.getElem?_set_ne h]
theorem yen {H : Heap} {x : Option Blk} {i : Nat} (h : i < H.length) : hget (H.set i x) i = x := by
  simp [hget, h]

/-- A block whose cells are written. -/
theorem HR.write (h : HR σ base B H w) {i : Nat} {b : Blk} (hi : hget H i = some b) (hb : b.rw = true) {w' : World} {vs : List Value} (hlen : vs.length = b.cells.length)
    {g f z : Nat} {cs cs' : List Value} {ty : TypeId} {fr : Nat × Nat} (e : B i = some ⟨g, f, some z⟩) (hg : w.heap[g]? = some (.cells ⟨cs⟩ ty fr))
    (hg' : w'.heap[g]? = some (.cells ⟨cs'⟩ ty fr)) (hl : cs'.length = cs.length) (hoth : ∀ k, k ≠ g → w'.heap[k]? = w.heap[k]?) (hsz : w'.heap.size = w.heap.size)
    (ho : w'.os = w.os) (ht : w'.tape = w.tape) (hp : w'.output = w.output) (hv : VRs σ B vs ((cs'.drop f).take b.cells.length)) :
    HR σ base B (H.set i (some { b with cells := vs })) w' ∧ Stp B H w B (H.set i (some { b with cells := vs })) w' := by
  have hil := hget_lt hi
  obtain ⟨g', f', z', cs0, ty0, fr0, e', hbase, hg0, hl0, hfr0, hle0, _⟩ := h.rw i b hi hb
  rw [e] at e'; injection e' with e'; injection e' with e1 e2 e3
  subst e1; subst e2; injection e3 with e3; subst e3
  rw [hg] at hg0; injection hg0 with hg0; injection hg0 with q1 q2 q3
  injection q1 with q1; subst q1; subst q2; subst q3
  have hgetc : ∀ (k : Nat) (c : Blk), hget (H.set i (some { b with cells := vs })) k = some c → (k ≠ i ∧ hget H k = some c) ∨ (k = i ∧ c = { b with cells := vs }) := by
    intro k c hk
    by_cases hki : k = i
    · subst hki; rw [yen hil] at hk; injection hk with hk; exact .inr ⟨rfl, hk.symm⟩
    · rw [yeo (Ne.symm hki)] at hk; exact .inl ⟨hki, hk⟩
  have mp : ∀ k, Mp B (H.set i (some { b with cells := vs })) k → Mp B H k := by
    rintro k ⟨j, c, p, hj, hc, hpj, rfl⟩
    rcases hgetc j c hj with ⟨_, hj⟩ | ⟨rfl, rfl⟩
    · exact ⟨j, c, p, hj, hc, hpj, rfl⟩
    · exact ⟨j, b, p, hi, hb, hpj, rfl⟩
  refine ⟨⟨fun j c hj hc => ?_, fun j c hj hc => ?_, fun j k c d p q hj hk hc hd hpj hqk he => ?_, fun j p hj => by simpa using h.dom j p hj, by rw [hsz]; exact h.big⟩,
    ⟨.refl _, ho, ht, hp, Nat.le_of_eq hsz.symm, fun k hk hm => ?_, fun k hm => .inl (mp k hm)⟩⟩
  · rcases hgetc j c hj with ⟨hne, hj⟩ | ⟨rfl, rfl⟩
    · obtain ⟨g1, f1, z1, cs1, ty1, fr1, e1, hb1, hg1, hl1, hfr1, hle1, hv1⟩ := h.rw j c hj hc
      have hne' : g1 ≠ g := fun he => hne (h.inj j i c b _ _ hj hi hc hb e1 e he)
      exact ⟨g1, f1, z1, cs1, ty1, fr1, e1, hb1, by rw [hoth g1 hne']; exact hg1, hl1, hfr1, hle1, hv1⟩
    · exact ⟨g, f, z, cs', ty, fr, e, hbase, hg', by omega, by rw [hl]; exact hfr0, by simpa [hlen] using hle0, by simpa [hlen] using hv⟩
  · rcases hgetc j c hj with ⟨hne, hj⟩ | ⟨rfl, rfl⟩
    · obtain ⟨g1, o1, e1, hlt, hc1⟩ := h.ro j c hj hc
      refine ⟨g1, o1, e1, hlt, fun m x hx => ?_⟩
      obtain ⟨x', hx', r⟩ := hc1 m x hx
      exact ⟨x', by rw [World.cell?_of_block (w := w) (hoth g1 (by omega))]; exact hx', r⟩
    · rw [hb] at hc; simp at hc
  · rcases hgetc j c hj with ⟨_, hj0⟩ | ⟨e1, e2⟩ <;> rcases hgetc k d hk with ⟨_, hk0⟩ | ⟨e3, e4⟩
    · exact h.inj j k c d p q hj0 hk0 hc hd hpj hqk he
    · rw [e3] at hqk ⊢; exact h.inj j i c b p q hj0 hi hc hb hpj hqk he
    · rw [e1] at hpj ⊢; exact h.inj i k b d p q hi hk0 hb hd hpj hqk he
    · rw [e1, e3]
  · exact hoth k (fun he => hm ⟨i, b, _, hi, hb, e, he.symm⟩)

/-- A block is forgotten. -/
theorem HR.kill (h : HR σ base B H w) (i : Nat) : HR σ base B (H.set i none) w ∧ Stp B H w B (H.set i none) w := by
  have hgetc : ∀ (k : Nat) (c : Blk), hget (H.set i none) k = some c → hget H k = some c := by
    intro k c hk
    by_cases hki : k = i
    · subst hki
      have := hget_lt hk
      rw [yen (by simpa using this)] at hk; simp at hk
    · rwa [yeo (Ne.symm hki)] at hk
  refine ⟨⟨fun j c hj hc => h.rw j c (hgetc j c hj) hc, fun j c hj hc => h.ro j c (hgetc j c hj) hc, fun j k c d p q hj hk => h.inj j k c d p q (hgetc j c hj) (hgetc k d hk), fun j p hj => by simpa using h.dom j p hj, h.big⟩, ⟨.refl _, rfl, rfl, rfl, Nat.le_refl _, fun _ _ _ => rfl, fun k hm => ?_⟩⟩
  obtain ⟨j, c, p, hj, hc, hpj, rfl⟩ := hm
  exact .inl ⟨j, c, p, hgetc j c hj, hc, hpj, rfl⟩

theorem hget_take {H : Heap} {n i : Nat} {b : Blk} (h : hget (H.take n) i = some b) : i < n ∧ hget H i = some b := by
  have := hget_lt h
  have this : i < n := by simp at this; omega
  refine ⟨this, ?_⟩
  rw [hget, List.getElem?_take, if_pos this] at h
  exact h

/-- What was made from n on is forgotten. -/
theorem HR.cut (h : HR σ base B H w) {n : Nat} (hk : (H.take n).all (blkB n) = true) : HR σ base (AI.cut n B) (H.take n) w := by
  have hb : ∀ (i : Nat) (b : Blk), hget (H.take n) i = some b → b.cells.all (idsB 9 n) = true := by
    intro i b hi
    have hlt := hget_lt hi
    have hmem : some b ∈ H.take n := by
      have : (H.take n)[i]? = some (some b) := by
        unfold hget at hi
        rw [List.getElem?_eq_getElem hlt] at hi ⊢
        simpa using hi
      exact List.mem_of_getElem? this
    exact List.all_eq_true.1 hk _ hmem
  have hvr : ∀ {l l' : List Value}, l.all (idsB 9 n) = true → VRs σ B l l' → VRs σ (AI.cut n B) l l' := fun ha hr => ⟨hr.1, fun j x x' hx hx' => (hr.2 j x x' hx hx').cut n 9 (List.all_eq_true.1 ha x (List.mem_of_getElem? hx))⟩
  have hc : ∀ i p, i < n → B i = some p → AI.cut n B i = some p := fun i p hi hp => by simp [AI.cut, hi, hp]
  have hc' : ∀ i p, AI.cut n B i = some p → i < n ∧ B i = some p := fun i p hi => by
    unfold AI.cut at hi
    split at hi
    · exact ⟨‹_›, hi⟩
    · simp at hi
  refine ⟨fun i b hi hr => ?_, fun i b hi hr => ?_, fun i j b c p q hi hj hr hs hp hq => ?_, fun i p hi => ?_, h.big⟩
  · obtain ⟨hlt, hi'⟩ := hget_take hi
    obtain ⟨g, f, z, cs, ty, fr, e, r⟩ := h.rw i b hi' hr
    exact ⟨g, f, z, cs, ty, fr, hc i _ hlt e, r.1, r.2.1, r.2.2.1, r.2.2.2.1, r.2.2.2.2.1, hvr (hb i b hi) r.2.2.2.2.2⟩
  · obtain ⟨hlt, hi'⟩ := hget_take hi
    obtain ⟨g, o, e, hg, r⟩ := h.ro i b hi' hr
    refine ⟨g, o, hc i _ hlt e, hg, fun j x hx => ?_⟩
    obtain ⟨x', hx', r'⟩ := r j x hx
    exact ⟨x', hx', r'.cut n 9 (List.all_eq_true.1 (hb i b hi) x (List.mem_of_getElem? hx))⟩
  · obtain ⟨_, hi'⟩ := hget_take hi
    obtain ⟨_, hj'⟩ := hget_take hj
    exact h.inj i j b c p q hi' hj' hr hs (hc' i p hp).2 (hc' j q hq).2
  · have h1 := (hc' i p hi).1
    have h2 := h.dom i p (hc' i p hi).2
    simp; omega
end

/-- Cells are stored. -/
theorem run_storeCells_all {P : Program} (g o : Nat) (ty : TypeId) (fr : Nat × Nat) : ∀ (vs : List Value) (i : Nat) (cs : List Value) (w : World), w.heap[g]? = some (.cells ⟨cs⟩ ty fr) →
    (∀ o, o < cs.length → ¬ (fr.1 ≤ o ∧ o < fr.2)) → o + i + vs.length ≤ cs.length → (∀ v ∈ vs, v.oneCell' = true) →
    ∃ w', (storeCells ⟨g, o, none⟩ vs i).run P w = .ok () w' ∧ w'.heap[g]? = some (.cells ⟨splice cs (o + i) vs⟩ ty fr) ∧ (∀ k, k ≠ g → w'.heap[k]? = w.heap[k]?) ∧
      w'.heap.size = w.heap.size ∧ w'.os = w.os ∧ w'.tape = w.tape ∧ w'.output = w.output := by
  intro vs
  induction vs with
  | nil => intro i cs w hg _ _ _; exact ⟨w, rfl, hg, fun _ _ => rfl, rfl, rfl, rfl, rfl⟩
  | cons v r ih =>
    intro i cs w hg hf hl h1
    simp only [zal] at hl
    have hadd : (⟨g, o, none⟩ : Addr).add i = ⟨g, o + i, none⟩ := by unfold Addr.add; split <;> simp_all
    have hc : w.cell? ⟨g, o + i, none⟩ = some cs[o + i] := by
      simp [World.cell?, hg, List.getElem?_eq_getElem (show o + i < cs.length by omega)]
    have hfz : w.frozen? ⟨g, o + i, none⟩ = false := by
      simp only [World.frozen?, hg]
      have := hf (o + i) (by omega)
      cases h : (decide (fr.1 ≤ o + i) && decide (o + i < fr.2)) with
      | false => rfl
      | true => simp at h; exact absurd h this
    have hset : (w.setCell ⟨g, o + i, none⟩ v).heap[g]? = some (.cells ⟨cs.set (o + i) v⟩ ty fr) := by
      simp [World.setCell, Array.getElem?_modify, hg]
    obtain ⟨w', hr, h2, h3, h4, h5, h6, h7⟩ := ih (i + 1) (cs.set (o + i) v) (w.setCell ⟨g, o + i, none⟩ v) hset (by simpa using hf) (by simp; omega) (fun x hx => h1 x (by simp [hx]))
    refine ⟨w', ?_, by simpa [splice, Nat.add_assoc] using h2, fun k hk => ?_, by rw [h4]; simp [World.setCell], h5, h6, h7⟩
    · simp only [storeCells, hadd, Sem.run_bind, run_store P w _ v .plain (h1 v (by simp)), hc, hfz, Bool.false_eq_true, if_false, Result.andThen_ok]
      exact hr
    · rw [h3 k hk]
      simp [World.setCell, Array.getElem?_modify, Ne.symm hk]

end Go.Proofs.Ytejcabdejoameaa.AI

/- Operations: what the interpreter does stands for what the machine does. First part: those that come to no memory. -/
namespace Go.Proofs.Ytejcabdejoameaa.AI
open Go

def TR (σ : Nat → Nat) (B : Map) (e : Env) (a : Act) : Prop := ∀ (t : Nat) (v : Value), lk e t = some v → ∃ v', a.tmps[t]? = some v' ∧ VR σ B v v'

section
variable {P : Program} {τ σ : Nat → Nat} {base : Nat} {B : Map} {H : Heap} {w : World} {e : Env} {a : Act}

theorem TR.mono {B' : Map} (h : Ext B B') (t : TR σ B e a) : TR σ B' e a := fun k v hv => by
  obtain ⟨v', hv', r⟩ := t k v hv
  exact ⟨v', hv', r.mono h⟩

theorem ev_sound (ht : TR σ B e a) {x : Operand} {y : Arg} {v : Value} (hc : cArg τ σ x = some y) (h : ev e y = some v) : VR σ B v (a.eval x) := by
  cases x with
  | tmp t =>
    simp only [cArg, Option.some.injEq] at hc; subst hc
    obtain ⟨v', hv', r⟩ := ht t v h
    simpa [Act.eval, Array.getD_eq_getD_getElem?, hv'] using r
  | const c =>
    simp only [cArg] at hc
    split at hc
    · rename_i hk
      injection hc with hc; subst hc
      simp only [ev, Option.some.injEq] at h; subst h
      exact VR.const 9 _ hk
    · simp at hc
  | func f =>
    simp only [cArg] at hc
    split at hc
    · rename_i hk
      injection hc with hc; subst hc
      simp only [ev, Option.some.injEq] at h; subst h
      have : VR σ B (.func (.func (τ f)) #[] #[]) (.func (.func (σ (τ f))) #[] #[]) := .func _ _ _ _ _ rfl (fun j x x' hx => by simp at hx) rfl (fun j x x' hx => by simp at hx)
      rwa [hk] at this
    · simp at hc
  | global g => simp [cArg] at hc

theorem evs_sound (ht : TR σ B e a) : ∀ {xs : List Operand} {ys : List Arg} {vs : List Value}, cArgs τ σ xs = some ys → evs e ys = some vs → VRs σ B vs (xs.map a.eval) := by
  intro xs
  induction xs with
  | nil =>
    intro ys vs hc h
    simp only [cArgs, Option.some.injEq] at hc; subst hc
    simp only [evs, Option.some.injEq] at h; subst h
    exact VRs.nil
  | cons x xs ih =>
    intro ys vs hc h
    simp only [cArgs, Option.bind_eq_some_iff] at hc
    obtain ⟨y, hy, ys', hys, hc⟩ := hc
    injection hc with hc; subst hc
    simp only [evs, Option.bind_eq_some_iff] at h
    obtain ⟨v, hv, vs', hvs, h⟩ := h
    injection h with h; subst h
    exact (ih hys hvs).cons (ev_sound ht hy hv)

theorem eval0_run {α : Type} {s : Sem α} {v : α} (h : eval0 s = some v) (w : World) : s.run P w = .ok v w := by
  cases s <;> simp [eval0] at h
  subst h; rfl

theorem VR.atom_eq {v v' : Value} (r : VR σ B v v') (h : AI.atom v = true) : v' = v := by
  cases r with
  | atom => rfl
  | ptr => simp [AI.atom] at h
  | slice => simp [AI.atom] at h
  | empty => simp [AI.atom] at h
  | void => simp [AI.atom] at h
  | agg => simp [AI.atom] at h
  | tuple => simp [AI.atom] at h
  | func => simp [AI.atom] at h

theorem VR.of_int {k : IntKind} {n : Int} {v' : Value} (r : VR σ B (.int k n) v') : v' = .int k n := r.atom_eq rfl
theorem VR.of_bool {b : Bool} {v' : Value} (r : VR σ B (.bool b) v') : v' = .bool b := r.atom_eq rfl
theorem VR.of_string {s : ByteArray} {v' : Value} (r : VR σ B (.string s) v') : v' = .string s := r.atom_eq rfl

/-- What an operation's run ends in. -/
def Yields (P : Program) (o : Oper) (a : Act) (w : World) (v : Value) (w' : World) : Prop :=
  (execOp a.eval o).run P w = .ok (.value v) w' ∨ ((execOp a.eval o).run P w = .ok .skip w' ∧ v = undef)

/-- An operation is sound. -/
def OpOK (P : Program) (σ : Nat → Nat) (base : Nat) (B : Map) (H : Heap) (w : World) (a : Act) (o : Oper) (v : Value) (H' : Heap) : Prop :=
  ∃ v' w' B', Yields P o a w v' w' ∧ VR σ B' v v' ∧ HR σ base B' H' w' ∧ Stp B H w B' H' w'

theorem OpOK.pure {o : Oper} {v v' : Value} (hr : HR σ base B H w) (h : (execOp a.eval o).run P w = .ok (.value v') w) (hv : VR σ B v v') : OpOK P σ base B H w a o v H :=
  ⟨v', w, B, .inl h, hv, hr, .refl _ _ _⟩

theorem eqBool_run {t : TypeId} (hu : P.underlying t = some .bool) (p q : Bool) (w : World) : (Op.equal t (.bool p) (.bool q)).run P w = .ok (p == q) w := by
  show (Op.equalIn (9999 + 1) t (.bool p) (.bool q)).run P w = _
  rw [Op.equalIn]
  simp only [Sem.run_bind, run_underlying hu, Result.andThen_ok]
  rfl

theorem stringOp_atom {op : BinOp} {x y : ByteArray} {v : Value} (h : eval0 (Op.stringOp op x y) = some v) : AI.atom v = true := by
  cases op
  case add =>
    by_cases hc : (((x.size + y.size : Nat) : Int) > IntKind.i64.max)
    · simp only [Op.stringOp, if_pos hc, unsupported, eval0, reduceCtorEq] at h
    · simp only [Op.stringOp, if_neg hc, Pure.pure, eval0, Option.some.injEq] at h
      subst h; rfl
  all_goals first
    | (simp only [Op.stringOp, Pure.pure, eval0, Option.some.injEq] at h; subst h; rfl)
    | (simp only [Op.stringOp, stuck, eval0, reduceCtorEq] at h)

theorem intOp_atom {op : BinOp} {k k' : IntKind} {x y : Int} {v : Value} (h : binV op (.int k x) (.int k' y) = some v) : AI.atom v = true := by
  have hs : ∀ {op}, eval0 (Op.shift op k x k' y) = some v → AI.atom v = true := by
    intro op h
    by_cases hc : y < 0
    · simp only [Op.shift, if_pos hc, runtimePanic, Bind.bind, Sem.bind, program, eval0, reduceCtorEq] at h
    · cases op <;> simp only [Op.shift, if_neg hc, Pure.pure, stuck, eval0, reduceCtorEq, Option.some.injEq] at h <;> subst h <;> rfl
  have hd : ∀ {op}, eval0 (Op.intDiv op k x y) = some v → AI.atom v = true := by
    intro op h
    by_cases hc : y = 0
    · simp only [Op.intDiv, if_pos hc, runtimePanic, Bind.bind, Sem.bind, program, eval0, reduceCtorEq] at h
    · cases op <;> simp only [Op.intDiv, if_neg hc, Pure.pure, stuck, eval0, reduceCtorEq, Option.some.injEq] at h <;> subst h <;> rfl
  have ha : ∀ {op}, eval0 (Op.intArith op k x y) = some v → AI.atom v = true := by
    intro op h
    cases op <;> simp only [Op.intArith, Pure.pure, stuck, eval0, reduceCtorEq, Option.some.injEq] at h <;> subst h <;> rfl
  have hb : ∀ {op}, eval0 (Op.intBits op k x y) = some v → AI.atom v = true := by
    intro op h
    cases op <;> simp only [Op.intBits, Pure.pure, stuck, eval0, reduceCtorEq, Option.some.injEq] at h <;> subst h <;> rfl
  have hm : ∀ {op}, eval0 (Op.intCmp op x y) = some v → AI.atom v = true := by
    intro op h
    cases op <;> simp only [Op.intCmp, Pure.pure, stuck, eval0, reduceCtorEq, Option.some.injEq] at h <;> subst h <;> rfl
  unfold binV at h
  cases op <;> simp only at h <;> first
    | exact hs h
    | (split at h
       · first | exact ha h | exact hd h | exact hb h | exact hm h
       · simp at h)

theorem binV_run {op : BinOp} {x y v : Value} {t : TypeId} {px py : Operand} (h : binV op x y = some v) (w : World) :
    (do eqGuard op t px py x y; binOp op t x y : Sem Value).run P w = .ok v w := by
  have hg : (eqGuard op t px py x y).run P w = .ok () w := by
    unfold binV at h
    cases x <;> cases y <;> simp only [reduceCtorEq] at h <;> cases op <;> rfl
  simp only [Sem.run_bind, hg, Result.andThen_ok]
  unfold binV at h
  cases x <;> cases y <;> simp only [reduceCtorEq] at h
  · rename_i k m k' n
    cases op <;> simp only at h <;> first
      | exact eval0_run h w
      | (split at h
         · rename_i hk; subst hk; simp only [binOp, ne_eq, not_true, if_false]; exact eval0_run h w
         · simp at h)
  · exact eval0_run (by cases op <;> exact h) w

theorem binV_atom {op : BinOp} {x y v : Value} (h : binV op x y = some v) : AI.atom x = true ∧ AI.atom y = true ∧ AI.atom v = true := by
  unfold binV at h
  cases x <;> cases y <;> simp only [reduceCtorEq] at h
  · exact ⟨rfl, rfl, intOp_atom (op := op) (by unfold binV; exact h)⟩
  · exact ⟨rfl, rfl, stringOp_atom h⟩

theorem eqb_ok {o : Oper} {op : BinOp} {neg : Bool} {t u : TypeId} {x y : Operand} {v : Value} {H' : Heap} (hr : HR σ base B H w) (ht : TR σ B e a) (hop : o.op = .binOp op t x y u) (hu : P.underlying t = some .bool)
    {x' y' : Arg} (hx : cArg τ σ x = some x') (hy : cArg τ σ y = some y') (ho : (op = .eql ∧ neg = false) ∨ (op = .neq ∧ neg = true)) (h : aop (.eqb neg x' y') e H = some (v, H')) : OpOK P σ base B H w a o v H' := by
  simp only [aop] at h
  split at h
  · rename_i p q hvx hvy
    injection h with h; injection h with e1 e2; subst e1; subst e2
    have ex := (ev_sound ht hx hvx).of_bool
    have ey := (ev_sound ht hy hvy).of_bool
    refine OpOK.pure hr ?_ (.atom _ rfl)
    rcases ho with ⟨rfl, rfl⟩ | ⟨rfl, rfl⟩
    · simp only [execOp, hop, ex, ey, Sem.run_bind, show (eqGuard .eql t x y (.bool p) (.bool q)).run P w = .ok () w from rfl, Result.andThen_ok, binOp, eqBool_run hu, Sem.run_pure]
      simp
    · simp only [execOp, hop, ex, ey, Sem.run_bind, show (eqGuard .neq t x y (.bool p) (.bool q)).run P w = .ok () w from rfl, Result.andThen_ok, binOp, eqBool_run hu, Sem.run_pure]
      simp
  · simp at h

theorem bin_ok {o : Oper} {op : BinOp} {t u : TypeId} {x y : Operand} {ao : AOp} {v : Value} {H' : Heap} (hr : HR σ base B H w) (ht : TR σ B e a) (hop : o.op = .binOp op t x y u)
    {x' y' : Arg} (hx : cArg τ σ x = some x') (hy : cArg τ σ y = some y')
    (hao : ao = .bin op x' y') (h : aop ao e H = some (v, H')) : OpOK P σ base B H w a o v H' := by
  subst hao
  simp only [aop, Option.bind_eq_some_iff, Option.map_eq_some_iff] at h
  obtain ⟨vx, hvx, vy, hvy, r, hr', he⟩ := h
  injection he with e1 e2; subst e1; subst e2
  obtain ⟨a1, a2, a3⟩ := binV_atom hr'
  have ex := (ev_sound ht hx hvx).atom_eq a1
  have ey := (ev_sound ht hy hvy).atom_eq a2
  refine OpOK.pure hr ?_ (.atom r a3)
  have := binV_run (P := P) (t := t) (px := x) (py := y) hr' w
  simp only [execOp, hop, ex, ey, Sem.run_bind] at this ⊢
  simp only [this, Result.andThen_ok, Sem.run_pure]

end
end Go.Proofs.Ytejcabdejoameaa.AI

/- Operations, second part. -/
namespace Go.Proofs.Ytejcabdejoameaa.AI
open Go

section
variable {P : Program} {τ σ : Nat → Nat} {base : Nat} {B : Map} {H : Heap} {w : World} {e : Env} {a : Act}

theorem addrOf_eq {v : Value} {ad : Addr} (h : addrOf v = some ad) : v = .pointer (some ⟨ad.block, ad.off, none⟩) ∧ ad = ⟨ad.block, ad.off, none⟩ := by
  unfold addrOf at h
  split at h
  · injection h with h; subst h; exact ⟨rfl, rfl⟩
  · simp at h

theorem VR.of_ptr {i o : Nat} {v' : Value} (r : VR σ B (.pointer (some ⟨i, o, none⟩)) v') : ∃ p, B i = some p ∧ v' = .pointer (some ⟨p.blk, p.off + o, none⟩) := by
  cases r with
  | atom _ h => simp [AI.atom] at h
  | ptr _ _ p hp => exact ⟨p, hp, rfl⟩

theorem VR.of_slice {ad : Addr} {n z : Nat} {v' : Value} (r : VR σ B (.slice (some ad) n z) v') : ∃ p c, B ad.block = some p ∧ ad.spot = none ∧
    ((v' = .slice (some ⟨p.blk, p.off + ad.off, none⟩) n c ∧ n ≤ c ∧ (∀ s, p.size = some s → ad.off + c * z ≤ s)) ∨ (n = 0 ∧ p.size = none ∧ ∃ a', v' = .slice a' 0 c)) := by
  cases r with
  | atom _ h => simp [AI.atom] at h
  | slice i o n z c p hp hn hs => exact ⟨p, c, hp, rfl, .inl ⟨rfl, hn, hs⟩⟩
  | empty i o z c p a' hp hs => exact ⟨p, c, hp, rfl, .inr ⟨rfl, hs, a', rfl⟩⟩

theorem VR.of_nothing {z : Nat} {v' : Value} (r : VR σ B (.slice none 0 z) v') : ∃ a c, v' = .slice a 0 c := by
  cases r with
  | atom _ h => exact ⟨_, _, rfl⟩
  | void c a => exact ⟨a, c, rfl⟩

theorem VR.of_agg {cs : Array Value} {v' : Value} (r : VR σ B (.agg cs) v') : ∃ cs', v' = .agg cs' ∧ VRs σ B cs.toList cs'.toList := by
  cases r with
  | atom _ h => simp [AI.atom] at h
  | agg _ cs' hl hr => exact ⟨cs', rfl, hl, hr⟩

theorem VR.of_tuple {cs : Array Value} {v' : Value} (r : VR σ B (.tuple cs) v') : ∃ cs', v' = .tuple cs' ∧ VRs σ B cs.toList cs'.toList := by
  cases r with
  | atom _ h => simp [AI.atom] at h
  | tuple _ cs' hl hr => exact ⟨cs', rfl, hl, hr⟩

theorem intOf_eq {v : Value} {n : Int} (h : intOf? v = some n) : ∃ k, v = .int k n := by
  unfold intOf? at h
  split at h
  · injection h with h; subst h; exact ⟨_, rfl⟩
  · simp at h

theorem szT_run {t : TypeId} {n : Nat} (h : szT P t = some n) (w : World) : (sizeOf t).run P w = .ok n w := by
  simp only [szT, Option.map_eq_some_iff] at h
  obtain ⟨i, hi, rfl⟩ := h
  simp [sizeOf, typeInfo, hi]

theorem isAgg_run {t : TypeId} {b : Bool} (h : isAggT P t = some b) (w : World) : (isAgg t).run P w = .ok b w := by
  unfold isAggT at h
  cases hu : P.underlying t with
  | none => simp [hu] at h
  | some d =>
    rw [hu] at h
    simp only [isAgg, Sem.run_bind, run_underlying hu, Result.andThen_ok]
    cases d <;> simp at h <;> subst h <;> rfl

theorem zeroT_run {t : TypeId} {v : Value} (h : zeroT P t = some v) (w : World) : (zeroValue t).run P w = .ok v w := by
  simp only [zeroT, Option.bind_eq_some_iff] at h
  obtain ⟨i, hi, hz⟩ := h
  simp [zeroValue, typeInfo, hi, hz]

theorem Addr_add (b o n : Nat) : (⟨b, o, none⟩ : Addr).add n = ⟨b, o + n, none⟩ := by unfold Addr.add; split <;> simp_all

/-- A value is read. -/
theorem loadAt_run (hr : HR σ base B H w) {t : TypeId} {n : Option Nat} {i o : Nat} {p : Bnd} {v : Value} (hp : B i = some p) (hn : shT P t = some n) (h : hload H n ⟨i, o, none⟩ = some v) :
    ∃ v', (loadVar t ⟨p.blk, p.off + o, none⟩).run P w = .ok v' w ∧ VR σ B v v' := by
  simp only [hload, Option.bind_eq_some_iff] at h
  obtain ⟨b, hb, h⟩ := h
  unfold shT at hn
  split at hn
  · rename_i hag
    simp only [Option.map_eq_some_iff] at hn
    obtain ⟨m, hm, rfl⟩ := hn
    simp only at h
    split at h
    · rename_i hle
      injection h with h; subst h
      obtain ⟨vs, hvs, hlen, hc⟩ := hr.cells hb hp o m hle
      refine ⟨.agg vs.toArray, ?_, .agg' hvs⟩
      have hl := run_loadCells_list (P := P) w ⟨p.blk, p.off + o, none⟩ vs (fun j v hv => by rw [Addr_add]; exact hc j v hv)
      rw [hlen] at hl
      simp only [loadVar, Sem.run_bind, isAgg_run hag, Result.andThen_ok, if_true, szT_run hm, hl, Sem.run_pure]
    · simp at h
  · rename_i hag
    injection hn with hn; subst hn
    simp only at h
    obtain ⟨p', hp', hc⟩ := hr.cell hb
    rw [hp] at hp'; injection hp' with hp'; subst hp'
    obtain ⟨x', hx', r⟩ := hc o v h
    refine ⟨x', ?_, r⟩
    simp only [loadVar, Sem.run_bind, isAgg_run hag, Result.andThen_ok, Bool.false_eq_true, if_false, run_load, hx']
  · simp at hn

theorem load_ok {o : Oper} {t : TypeId} {x : Operand} {x' : Arg} {n : Option Nat} {v : Value} {H' : Heap} (hr : HR σ base B H w) (ht : TR σ B e a) (hop : o.op = .load t x)
    (hx : cArg τ σ x = some x') (hn : shT P t = some n) (h : aop (.load n x') e H = some (v, H')) : OpOK P σ base B H w a o v H' := by
  simp only [aop, Option.bind_eq_some_iff, Option.map_eq_some_iff] at h
  obtain ⟨va, hva, ad, had, r, hl, he⟩ := h
  injection he with e1 e2; subst e1; subst e2
  obtain ⟨rfl, hd⟩ := addrOf_eq had
  obtain ⟨p, hp, ex⟩ := (ev_sound ht hx hva).of_ptr
  rw [hd] at hl
  obtain ⟨v', hv', rv⟩ := loadAt_run (P := P) hr hp hn hl
  refine OpOK.pure hr ?_ rv
  simp only [execOp, hop, ex, Instr.loadAt, Instr.sureAddr, Sem.run_bind, Sem.run_pure, Result.andThen_ok, hv']

theorem splice_append_right (vs : List Value) : ∀ (l m : List Value) (o : Nat), splice (l ++ m) (l.length + o) vs = l ++ splice m o vs := by
  induction vs with
  | nil => intro l m o; rfl
  | cons v r ih =>
    intro l m o
    simp only [splice]
    rw [List.set_append_right _ _ (by omega), show l.length + o - l.length = o by omega, Nat.add_assoc, ih]

theorem splice_mid {cs vs : List Value} {f o len : Nat} (h1 : f + len ≤ cs.length) (h2 : o + vs.length ≤ len) :
    ((splice cs (f + o) vs).drop f).take len = splice ((cs.drop f).take len) o vs := by
  have e : cs = cs.take f ++ ((cs.drop f).take len ++ (cs.drop f).drop len) := by rw [List.take_append_drop, List.take_append_drop]
  have hf : (cs.take f).length = f := by simp; omega
  have hm : ((cs.drop f).take len).length = len := by simp; omega
  generalize cs.take f = x at e hf
  generalize (cs.drop f).take len = y at e hm ⊢
  generalize (cs.drop f).drop len = z at e
  subst e; subst hf; subst hm
  rw [splice_append_right, splice_append_left _ _ _ _ h2]
  simp [splice_length]

/-- Cells are written. -/
theorem store_run (hr : HR σ base B H w) {i o : Nat} {p : Bnd} {vs vs' : List Value} {H' : Heap} (hp : B i = some p) (hv : VRs σ B vs vs') (h : hstore H ⟨i, o, none⟩ vs = some H') :
    ∃ w', (storeCells ⟨p.blk, p.off + o, none⟩ vs' 0).run P w = .ok () w' ∧ HR σ base B H' w' ∧ Stp B H w B H' w' := by
  simp only [hstore, Option.bind_eq_some_iff] at h
  obtain ⟨b, hb, h⟩ := h
  split at h
  · rename_i hc
    injection h with h; subst h
    simp only [Bool.and_eq_true, decide_eq_true_eq] at hc
    obtain ⟨⟨hrw, hle⟩, hone⟩ := hc
    obtain ⟨g, f, z, cs, ty, fr, e1, hbase, hg, hl, hfr, hlz, hvr⟩ := hr.rw i b hb hrw
    rw [hp] at e1; injection e1 with e1; subst e1
    have hlen := hv.1
    obtain ⟨w', hrun, hg', hoth, hsz, ho, ht, hpo⟩ := run_storeCells_all (P := P) g (f + o) ty fr vs' 0 cs w hg hfr (by omega) (fun x hx => by
      obtain ⟨j, hj⟩ := List.mem_iff_getElem?.1 hx
      have hjl : j < vs.length := by have := (List.getElem?_eq_some_iff.1 hj).1; omega
      exact (hv.2 j _ x (List.getElem?_eq_getElem hjl) hj).one (List.all_eq_true.1 hone _ (List.getElem_mem hjl)))
    rw [zba] at hg'
    refine ⟨w', hrun, hr.write hb hrw (splice_length _ _ _) hp hg hg' (splice_length _ _ _) hoth hsz ho ht hpo ?_⟩
    rw [splice_mid (by omega) (by omega)]
    exact hv.splice o hvr
  · simp at h

theorem store_ok {o : Oper} {t : TypeId} {x y : Operand} {x' y' : Arg} {n : Nat} {v : Value} {H' : Heap} (hr : HR σ base B H w) (ht : TR σ B e a) (hop : o.op = .store t x y)
    (hx : cArg τ σ x = some x') (hy : cArg τ σ y = some y') (hn : szT P t = some n) (h : aop (.store n x' y') e H = some (v, H')) : OpOK P σ base B H w a o v H' := by
  simp only [aop, Option.bind_eq_some_iff] at h
  obtain ⟨va, hva, ad, had, vx, hvx, h⟩ := h
  split at h
  · rename_i hsz
    simp only [Option.map_eq_some_iff] at h
    obtain ⟨H1, hs, he⟩ := h
    injection he with e1 e2; subst e1; subst e2
    obtain ⟨rfl, hd⟩ := addrOf_eq had
    obtain ⟨p, hp, ex⟩ := (ev_sound ht hx hva).of_ptr
    have rx := (ev_sound ht hy hvx).cells
    rw [hd] at hs
    obtain ⟨w', hrun, hr', hst⟩ := store_run (P := P) hr hp rx hs
    refine ⟨undef, w', B, .inr ⟨?_, rfl⟩, .tuple' VRs.nil, hr', hst⟩
    have hs2 : (a.eval y).cells.size = n := by have := rx.1; simp at this; omega
    simp only [execOp, hop, ex, Instr.storeAt, Instr.sureAddr, storeVar, Sem.run_bind, Sem.run_pure, Result.andThen_ok, szT_run hn, hs2, ne_eq, not_true, if_false, hrun]
  · simp at h
end
end Go.Proofs.Ytejcabdejoameaa.AI

/- Operations, third part. -/
namespace Go.Proofs.Ytejcabdejoameaa.AI
open Go

section
variable {P : Program} {τ σ : Nat → Nat} {base : Nat} {B : Map} {H : Heap} {w : World} {e : Env} {a : Act} {o : Oper} {v : Value} {H' : Heap}

theorem mov_ok {x : Operand} {x' : Arg} (hr : HR σ base B H w) (ht : TR σ B e a) (hop : o.op = .move x ∨ o.op = .assign x)
    (hx : cArg τ σ x = some x') (h : aop (.mov x') e H = some (v, H')) : OpOK P σ base B H w a o v H' := by
  simp only [aop, Option.map_eq_some_iff] at h
  obtain ⟨va, hva, he⟩ := h
  injection he with e1 e2; subst e1; subst e2
  refine OpOK.pure hr ?_ (ev_sound ht hx hva)
  rcases hop with hop | hop <;> simp only [execOp, hop, Sem.run_pure]

theorem pick_ok {c x y : Operand} {c' x' y' : Arg} (hr : HR σ base B H w) (ht : TR σ B e a) (hop : o.op = .pick c x y)
    (hc : cArg τ σ c = some c') (hx : cArg τ σ x = some x') (hy : cArg τ σ y = some y') (h : aop (.pick c' x' y') e H = some (v, H')) : OpOK P σ base B H w a o v H' := by
  simp only [aop] at h
  split at h
  · rename_i b hb
    have eb := (ev_sound ht hc hb).of_bool
    simp only [Option.map_eq_some_iff] at h
    obtain ⟨va, hva, he⟩ := h
    injection he with e1 e2; subst e1; subst e2
    cases b with
    | true =>
      refine OpOK.pure hr ?_ (ev_sound ht hx (by simpa using hva))
      simp only [execOp, hop, eb, asBool, Sem.run_bind, Sem.run_pure, Result.andThen_ok, if_true]
    | false =>
      refine OpOK.pure hr ?_ (ev_sound ht hy (by simpa using hva))
      simp only [execOp, hop, eb, asBool, Sem.run_bind, Sem.run_pure, Result.andThen_ok, Bool.false_eq_true, if_false]
  · simp at h

theorem unary_atom {op : UnOp} {x r : Value} (h : eval0 (Op.unary op x) = some r) : AI.atom x = true ∧ AI.atom r = true := by
  cases op <;> cases x <;> simp only [Op.unary, Op.intArith, Op.intBits, Pure.pure, stuck, eval0, reduceCtorEq, Option.some.injEq] at h <;> first
    | (subst h; exact ⟨rfl, rfl⟩)
    | (rename_i q; cases q <;> simp [unsupported] at h)

theorem un_ok {op : UnOp} {t : TypeId} {x : Operand} {x' : Arg} (hr : HR σ base B H w) (ht : TR σ B e a) (hop : o.op = .unOp op t x)
    (hx : cArg τ σ x = some x') (h : aop (.un op x') e H = some (v, H')) : OpOK P σ base B H w a o v H' := by
  simp only [aop, Option.bind_eq_some_iff, Option.map_eq_some_iff] at h
  obtain ⟨va, hva, r, hr0, he⟩ := h
  injection he with e1 e2; subst e1; subst e2
  obtain ⟨h1, h2⟩ := unary_atom hr0
  have ex := (ev_sound ht hx hva).atom_eq h1
  refine OpOK.pure hr ?_ (.atom _ h2)
  simp only [execOp, hop, ex, Sem.run_bind, eval0_run hr0, Result.andThen_ok, Sem.run_pure]

theorem eqp_run {t u : TypeId} {op : BinOp} {neg : Bool} {px py : Operand} {x y : Value} {r : Bool} (ht : P.underlying t = some (.pointer u)) (h : eqPtr x y = some r)
    (hop : (op = .eql ∧ neg = false) ∨ (op = .neq ∧ neg = true)) (w : World) :
    (do eqGuard op t px py x y; binOp op t x y : Sem Value).run P w = .ok (.bool (r != neg)) w := by
  have he : (Op.equal t x y).run P w = .ok r w := by
    show (Op.equalIn (9999 + 1) t x y).run P w = _
    rw [Op.equalIn]
    simp only [Sem.run_bind, run_underlying ht, Result.andThen_ok]
    unfold eqPtr at h
    split at h
    · injection h with h; subst h; rfl
    · injection h with h; subst h; rfl
    · simp at h
  unfold eqPtr at h
  split at h
  · rename_i b
    rcases hop with ⟨rfl, rfl⟩ | ⟨rfl, rfl⟩
    · simp only [Sem.run_bind, show (eqGuard .eql t px py (.pointer none) (.pointer b)).run P w = .ok () w from rfl, Result.andThen_ok]
      cases b <;> simp only [binOp, Sem.run_bind, he, Result.andThen_ok, Sem.run_pure] <;> simp
    · simp only [Sem.run_bind, show (eqGuard .neq t px py (.pointer none) (.pointer b)).run P w = .ok () w from rfl, Result.andThen_ok]
      cases b <;> simp only [binOp, Sem.run_bind, he, Result.andThen_ok, Sem.run_pure] <;> simp
  · rename_i p
    rcases hop with ⟨rfl, rfl⟩ | ⟨rfl, rfl⟩
    · simp only [Sem.run_bind, show (eqGuard .eql t px py (.pointer (some p)) (.pointer none)).run P w = .ok () w from rfl, Result.andThen_ok, binOp, he, Sem.run_pure]
      simp
    · simp only [Sem.run_bind, show (eqGuard .neq t px py (.pointer (some p)) (.pointer none)).run P w = .ok () w from rfl, Result.andThen_ok, binOp, he, Sem.run_pure]
      simp
  · simp at h

theorem eqPtr_sound {x y x' y' : Value} {r : Bool} (hx : VR σ B x x') (hy : VR σ B y y') (h : eqPtr x y = some r) : eqPtr x' y' = some r := by
  unfold eqPtr at h
  split at h
  · rename_i b
    have := hx.atom_eq rfl; subst this
    injection h with h; subst h
    cases b with
    | none => have := hy.atom_eq rfl; subst this; rfl
    | some ad =>
      cases hy with
      | atom _ hh => simp [AI.atom] at hh
      | ptr i o p hp => rfl
  · rename_i ad
    have := hy.atom_eq rfl; subst this
    injection h with h; subst h
    cases hx with
    | atom _ hh => simp [AI.atom] at hh
    | ptr i o p hp => rfl
  · simp at h

theorem eqp_ok {op : BinOp} {neg : Bool} {t u s : TypeId} {x y : Operand} {x' y' : Arg} (hr : HR σ base B H w) (ht : TR σ B e a) (hop : o.op = .binOp op t x y s) (hu : P.underlying t = some (.pointer u))
    (hx : cArg τ σ x = some x') (hy : cArg τ σ y = some y') (ho : (op = .eql ∧ neg = false) ∨ (op = .neq ∧ neg = true)) (h : aop (.eqp neg x' y') e H = some (v, H')) : OpOK P σ base B H w a o v H' := by
  simp only [aop, Option.bind_eq_some_iff, Option.map_eq_some_iff] at h
  obtain ⟨va, hva, vb, hvb, r, hr0, he⟩ := h
  injection he with e1 e2; subst e1; subst e2
  refine OpOK.pure hr ?_ (.atom _ rfl)
  have := eqp_run (P := P) (px := x) (py := y) hu (eqPtr_sound (ev_sound ht hx hva) (ev_sound ht hy hvb) hr0) ho w
  simp only [execOp, hop, Sem.run_bind] at this ⊢
  simp only [this, Result.andThen_ok, Sem.run_pure]

theorem nilck_ok {x : Operand} {x' : Arg} (hr : HR σ base B H w) (ht : TR σ B e a) (hop : o.op = .nilCheck x)
    (hx : cArg τ σ x = some x') (h : aop (.nilck x') e H = some (v, H')) : OpOK P σ base B H w a o v H' := by
  simp only [aop] at h
  split at h
  · rename_i ad hv
    injection h with h; injection h with e1 e2; subst e1; subst e2
    have r := ev_sound ht hx hv
    generalize hva : a.eval x = y at r
    cases r with
    | atom _ hh => simp [AI.atom] at hh
    | ptr i o p hp => exact OpOK.pure hr (by simp only [execOp, hop, hva, Sem.run_pure]) (.ptr i o p hp)
  · rename_i i f c hv
    injection h with h; injection h with e1 e2; subst e1; subst e2
    have r := ev_sound ht hx hv
    generalize hva : a.eval x = y at r
    cases r with
    | atom _ hh => simp [AI.atom] at hh
    | func i f c f' c' h1 r1 h2 r2 => exact OpOK.pure hr (by simp only [execOp, hop, hva, Sem.run_pure]) (.func i f c f' c' h1 r1 h2 r2)
  · simp at h

theorem faddr_ok {s : TypeId} {fs : Array Field} {fd : Field} {n f : Nat} {x : Operand} {x' : Arg} (hr : HR σ base B H w) (ht : TR σ B e a) (hop : o.op = .fieldAddr s x f)
    (hu : P.underlying s = some (.struct fs)) (hf : fs[f]? = some fd) (hn : szT P fd.type = some n) (h0 : n ≠ 0)
    (hx : cArg τ σ x = some x') (h : aop (.faddr fd.offset x') e H = some (v, H')) : OpOK P σ base B H w a o v H' := by
  simp only [aop, Option.bind_eq_some_iff, Option.map_eq_some_iff] at h
  obtain ⟨va, hva, ad, had, he⟩ := h
  injection he with e1 e2; subst e1; subst e2
  obtain ⟨rfl, _⟩ := addrOf_eq had
  obtain ⟨p, hp, ex⟩ := (ev_sound ht hx hva).of_ptr
  refine OpOK.pure (v' := .pointer (some ⟨p.blk, p.off + (ad.off + fd.offset), none⟩)) hr ?_ (.ptr _ _ p hp)
  simp only [execOp, hop, ex, Instr.fieldAt, Instr.sureAddr, fieldPlace, Sem.run_bind, run_underlying hu, Result.andThen_ok, hf, Sem.run_pure, szT_run hn, h0, if_false, Addr_add, Nat.add_assoc]

theorem iaddrS_ok {t el : TypeId} {sz : Nat} {x i : Operand} {x' i' : Arg} (hr : HR σ base B H w) (ht : TR σ B e a) (hop : o.op = .indexAddr t x i)
    (hu : P.underlying t = some (.slice el)) (hn : szT P el = some sz)
    (hx : cArg τ σ x = some x') (hi : cArg τ σ i = some i') (h : aop (.iaddrS sz x' i') e H = some (v, H')) : OpOK P σ base B H w a o v H' := by
  simp only [aop] at h
  split at h
  · rename_i ad n z k m hvx hvi
    split at h
    · rename_i hb
      injection h with h; injection h with e1 e2; subst e1; subst e2
      have ei := (ev_sound ht hi hvi).of_int
      obtain ⟨p, c, hp, hs, hcase⟩ := (ev_sound ht hx hvx).of_slice
      rcases hcase with ⟨ex, hnc, _⟩ | ⟨h0, _⟩
      · refine OpOK.pure (v' := .pointer (some ⟨p.blk, p.off + (ad.off + m.toNat * sz), none⟩)) hr ?_ (.ptr _ _ p hp)
        simp only [execOp, hop, ex, ei, Instr.indexAt, asIntOf, Sem.run_bind, run_underlying hu, Result.andThen_ok, Sem.run_pure, Addr_add, Nat.add_assoc, Sem.run_ite, hb, and_self, if_true, szT_run hn]
      · omega
    · simp at h
  · simp at h

theorem iaddrA_ok {t el : TypeId} {sz n : Nat} {x i : Operand} {x' i' : Arg} (hr : HR σ base B H w) (ht : TR σ B e a) (hop : o.op = .indexAddr t x i)
    (hu : P.underlying t = some (.array n el)) (hn : szT P el = some sz)
    (hx : cArg τ σ x = some x') (hi : cArg τ σ i = some i') (h : aop (.iaddrA n sz x' i') e H = some (v, H')) : OpOK P σ base B H w a o v H' := by
  simp only [aop, Option.bind_eq_some_iff] at h
  obtain ⟨vx, hvx, ad, had, vi, hvi, m, hm, h⟩ := h
  split at h
  · rename_i hb
    injection h with h; injection h with e1 e2; subst e1; subst e2
    obtain ⟨k, rfl⟩ := intOf_eq hm
    obtain ⟨rfl, _⟩ := addrOf_eq had
    have ei := (ev_sound ht hi hvi).of_int
    obtain ⟨p, hp, ex⟩ := (ev_sound ht hx hvx).of_ptr
    refine OpOK.pure (v' := .pointer (some ⟨p.blk, p.off + (ad.off + m.toNat * sz), none⟩)) hr ?_ (.ptr _ _ p hp)
    simp only [execOp, hop, ex, ei, Instr.indexAt, asIntOf, Instr.sureAddr, Sem.run_bind, run_underlying hu, Result.andThen_ok, Sem.run_pure, Addr_add, Nat.add_assoc, Sem.run_ite, hb, and_self, if_true, szT_run hn]
  · simp at h

theorem idxS_ok {t : TypeId} {x i : Operand} {x' i' : Arg} (hr : HR σ base B H w) (ht : TR σ B e a) (hop : o.op = .index t x i)
    (hu : P.underlying t = some .string)
    (hx : cArg τ σ x = some x') (hi : cArg τ σ i = some i') (h : aop (.idxS x' i') e H = some (v, H')) : OpOK P σ base B H w a o v H' := by
  simp only [aop] at h
  split at h
  · rename_i s k m hvx hvi
    split at h
    · rename_i hb
      simp only [Option.map_eq_some_iff] at h
      obtain ⟨b, hbb, he⟩ := h
      injection he with e1 e2; subst e1; subst e2
      have ei := (ev_sound ht hi hvi).of_int
      have ex := (ev_sound ht hx hvx).of_string
      refine OpOK.pure hr ?_ (.atom _ rfl)
      simp only [execOp, hop, ex, ei, Instr.index, asIntOf, Sem.run_bind, run_underlying hu, Result.andThen_ok, Sem.run_pure, hb, if_true, hbb]
    · simp at h
  · simp at h

theorem part_run {t : TypeId} {n : Option Nat} {cs cs' : List Value} {off : Nat} {v : Value} (hn : shT P t = some n) (hv : VRs σ B cs cs') (h : partOf n cs off = some v) (w : World) :
    ∃ v', (part t ⟨cs'⟩ off).run P w = .ok v' w ∧ VR σ B v v' := by
  unfold shT at hn
  split at hn
  · rename_i hag
    simp only [Option.map_eq_some_iff] at hn
    obtain ⟨m, hm, rfl⟩ := hn
    simp only [partOf] at h
    split at h
    · rename_i hle
      injection h with h; subst h
      refine ⟨.agg (((cs'.drop off).take m).toArray), ?_, .agg' ((hv.drop off).take m)⟩
      simp only [part, Sem.run_bind, isAgg_run hag, Result.andThen_ok, if_true, szT_run hm, Sem.run_pure]
      congr 2
      simp
    · simp at h
  · rename_i hag
    injection hn with hn; subst hn
    simp only [partOf] at h
    obtain ⟨x', hx', r⟩ := hv.get h
    refine ⟨x', ?_, r⟩
    have : (⟨cs'⟩ : Array Value)[off]? = some x' := by simpa using hx'
    simp only [part, Sem.run_bind, isAgg_run hag, Result.andThen_ok, Bool.false_eq_true, if_false, this, Sem.run_pure]
  · simp at hn

theorem idxA_ok {t el : TypeId} {sz n : Nat} {sh : Option Nat} {x i : Operand} {x' i' : Arg} (hr : HR σ base B H w) (ht : TR σ B e a) (hop : o.op = .index t x i)
    (hu : P.underlying t = some (.array n el)) (hn : szT P el = some sz) (hs : shT P el = some sh) (hz : sz = sh.getD 1)
    (hx : cArg τ σ x = some x') (hi : cArg τ σ i = some i') (h : aop (.idxA n sh x' i') e H = some (v, H')) : OpOK P σ base B H w a o v H' := by
  simp only [aop] at h
  split at h
  · rename_i cs k m hvx hvi
    split at h
    · rename_i hb
      simp only [Option.map_eq_some_iff] at h
      obtain ⟨r, hr0, he⟩ := h
      injection he with e1 e2; subst e1; subst e2
      have ei := (ev_sound ht hi hvi).of_int
      obtain ⟨cs', ex, rv⟩ := (ev_sound ht hx hvx).of_agg
      obtain ⟨v', hv', rr⟩ := part_run (P := P) hs rv hr0 w
      refine OpOK.pure hr ?_ rr
      rw [← hz] at hv'
      simp only [execOp, hop, ex, ei, Instr.index, asIntOf, Sem.run_bind, run_underlying hu, Result.andThen_ok, Sem.run_pure, hb, and_self, if_true, szT_run hn, hv']
    · simp at h
  · simp at h

theorem fld_ok {t : TypeId} {fs : Array Field} {fd : Field} {f : Nat} {sh : Option Nat} {x : Operand} {x' : Arg} (hr : HR σ base B H w) (ht : TR σ B e a) (hop : o.op = .field t x f)
    (hu : P.underlying t = some (.struct fs)) (hf : fs[f]? = some fd) (hs : shT P fd.type = some sh)
    (hx : cArg τ σ x = some x') (h : aop (.fld fd.offset sh x') e H = some (v, H')) : OpOK P σ base B H w a o v H' := by
  simp only [aop] at h
  split at h
  · rename_i cs hvx
    simp only [Option.map_eq_some_iff] at h
    obtain ⟨r, hr0, he⟩ := h
    injection he with e1 e2; subst e1; subst e2
    obtain ⟨cs', ex, rv⟩ := (ev_sound ht hx hvx).of_agg
    obtain ⟨v', hv', rr⟩ := part_run (P := P) hs rv hr0 w
    refine OpOK.pure hr ?_ rr
    simp only [execOp, hop, ex, Instr.field, asAgg, Sem.run_bind, run_underlying hu, Result.andThen_ok, Sem.run_pure, hf, hv']
  · simp at h

theorem ext_ok {i : Nat} {x : Operand} {x' : Arg} (hr : HR σ base B H w) (ht : TR σ B e a) (hop : o.op = .extract x i)
    (hx : cArg τ σ x = some x') (h : aop (.ext i x') e H = some (v, H')) : OpOK P σ base B H w a o v H' := by
  simp only [aop] at h
  split at h
  · rename_i vs hvx
    simp only [Option.map_eq_some_iff] at h
    obtain ⟨r, hr0, he⟩ := h
    injection he with e1 e2; subst e1; subst e2
    obtain ⟨vs', ex, rv⟩ := (ev_sound ht hx hvx).of_tuple
    obtain ⟨v', hv', rr⟩ := rv.get hr0
    refine OpOK.pure hr ?_ rr
    have : vs'[i]? = some v' := by simpa using hv'
    simp only [execOp, hop, ex, Instr.extract, Sem.run_bind, this, Sem.run_pure, Result.andThen_ok]
  · simp at h

end
end Go.Proofs.Ytejcabdejoameaa.AI

/- Operations, fourth part: those that make memory; conversions. -/
namespace Go.Proofs.Ytejcabdejoameaa.AI
open Go

section
variable {P : Program} {τ σ : Nat → Nat} {base : Nat} {B : Map} {H : Heap} {w : World} {e : Env} {a : Act} {o : Oper} {v : Value} {H' : Heap}

/-- A block of just these cells. -/
theorem new_ok (hr : HR σ base B H w) {vs vs' : List Value} {ty : TypeId} (hv : VRs σ B vs vs')
    {w' : World} (hw : w' = { w with heap := w.heap.push (.cells ⟨vs'⟩ ty) }) :
    HR σ base (bind1 B H.length ⟨w.heap.size, 0, some vs'.length⟩) (H ++ [some ⟨true, vs⟩]) w' ∧
    Stp B H w (bind1 B H.length ⟨w.heap.size, 0, some vs'.length⟩) (H ++ [some ⟨true, vs⟩]) w' := by
  subst hw
  exact hr.alloc rfl rfl rfl rfl (fun o _ => by omega) (by have := hv.1; omega) (by rw [hv.1, List.take_length]; exact hv)

theorem bind1_self (B : Map) (n : Nat) (p : Bnd) : bind1 B n p n = some p := by simp [bind1]

theorem alloc_ok {t : TypeId} {z : Value} (hr : HR σ base B H w) (hop : o.op = .alloc t) (hz : zeroT P t = some z) (hk : constV 9 z = true)
    (h : aop (.new z.cells.toList) e H = some (v, H')) : OpOK P σ base B H w a o v H' := by
  simp only [aop, Option.some.injEq, Prod.mk.injEq] at h
  obtain ⟨rfl, rfl⟩ := h
  have rz : VRs σ B z.cells.toList z.cells.toList := (VR.const 9 z hk).cells
  obtain ⟨h1, h2⟩ := new_ok (ty := t) hr rz rfl
  refine ⟨.pointer (some ⟨w.heap.size, 0, none⟩), _, _, .inl ?_, .ptr H.length 0 ⟨w.heap.size, 0, _⟩ (bind1_self _ _ _), h1, h2⟩
  simp only [execOp, hop, Instr.alloc, newVar, newRow, Sem.run_bind, zeroT_run hz, Result.andThen_ok, run_newObj, Sem.run_pure]

theorem box_ok {t : TypeId} {x : Operand} {x' : Arg} (hr : HR σ base B H w) (ht : TR σ B e a) (hop : o.op = .box t x) (hx : cArg τ σ x = some x')
    (h : aop (.box x') e H = some (v, H')) : OpOK P σ base B H w a o v H' := by
  simp only [aop, Option.map_eq_some_iff] at h
  obtain ⟨vx, hvx, he⟩ := h
  injection he with e1 e2; subst e1; subst e2
  have rz := (ev_sound ht hx hvx).cells
  obtain ⟨h1, h2⟩ := new_ok (ty := t) hr rz rfl
  refine ⟨.pointer (some ⟨w.heap.size, 0, none⟩), _, _, .inl ?_, .ptr H.length 0 ⟨w.heap.size, 0, _⟩ (bind1_self _ _ _), h1, h2⟩
  simp only [execOp, hop, Instr.box, newVar, newRow, Sem.run_bind, Result.andThen_ok, run_newObj, Sem.run_pure]

theorem foldl_splice (off : Nat) : ∀ (l : List Value) (k : Nat) (cs : Array Value), ((l.zipIdx k).foldl (fun cs (x : Value × Nat) => cs.setIfInBounds (off + x.2) x.1) cs).toList = splice cs.toList (off + k) l := by
  intro l
  induction l with
  | nil => intro k cs; rfl
  | cons v l ih =>
    intro k cs
    simp only [List.zipIdx_cons, List.foldl_cons, splice]
    rw [ih (k + 1)]
    simp [Nat.add_assoc]

theorem fill_run {place : Nat → Option (Nat × Nat)} (ht : TR σ B e a) : ∀ {parts : List (Nat × Operand)} {ps : List (Nat × Nat × Arg)} {vs : List (Nat × Nat × Value)} {zero zero' cs : List Value},
    cParts τ σ place parts = some ps → evp e ps = some vs → VRs σ B zero zero' → fillL zero vs = some cs →
    ∃ cs', Instr.fill place ⟨zero'⟩ (parts.map fun (i, x) => (i, a.eval x)) = some ⟨cs'⟩ ∧ VRs σ B cs cs' := by
  intro parts
  induction parts with
  | nil =>
    intro ps vs zero zero' cs hc he hz hf
    simp only [cParts, Option.some.injEq] at hc; subst hc
    simp only [evp, Option.some.injEq] at he; subst he
    simp only [fillL, Option.some.injEq] at hf; subst hf
    exact ⟨zero', rfl, hz⟩
  | cons p parts ih =>
    intro ps vs zero zero' cs hc he hz hf
    obtain ⟨i, x⟩ := p
    simp only [cParts, Option.bind_eq_some_iff] at hc
    obtain ⟨⟨off, size⟩, hpl, y, hy, ps', hps, hc⟩ := hc
    injection hc with hc; subst hc
    simp only [evp, Option.bind_eq_some_iff] at he
    obtain ⟨v, hv, vs', hvs, he⟩ := he
    injection he with he; subst he
    simp only [fillL] at hf
    split at hf
    · rename_i hsz
      have rv := (ev_sound ht hy hv).cells
      have hs : (a.eval x).cells.size = size := by have := rv.1; simp at this; omega
      obtain ⟨cs', h1, h2⟩ := ih hps hvs (rv.splice off hz) hf
      refine ⟨cs', ?_, h2⟩
      have hl := hz.1
      have hno : ((a.eval x).cells.size ≠ size || decide (off + (a.eval x).cells.size > zero'.length)) = false := by
        simp [hs]; omega
      have hfold : ((a.eval x).cells.zipIdx.foldl (fun (cs : Array Value) (x : Value × Nat) => cs.setIfInBounds (off + x.2) x.1) (⟨zero'⟩ : Array Value)) = ⟨splice zero' off (a.eval x).cells.toList⟩ := by
        apply Array.ext'
        rw [← Array.foldl_toList, Array.toList_zipIdx, foldl_splice]
        rfl
      simp only [List.map_cons, Instr.fill, hpl]
      rw [show ((a.eval x).cells.zipIdx.foldl (fun (cs : Array Value) (x : Value × Nat) => match x with | (c, j) => cs.setIfInBounds (off + j) c) (⟨zero'⟩ : Array Value)) = (⟨splice zero' off (a.eval x).cells.toList⟩ : Array Value) from hfold]
      rw [if_neg (by simpa using hno)]
      exact h1
    · simp at hf

theorem mapM_run {α β : Type} {f : α → Sem β} {g : α → Option β} (hf : ∀ x y, g x = some y → ∀ w, (f x).run P w = .ok y w) : ∀ (l : List α) (r : List β), l.mapM g = some r → ∀ w, (l.mapM f).run P w = .ok r w := by
  intro l
  induction l with
  | nil => intro r h w; simp at h; subst h; rfl
  | cons x l ih =>
    intro r h w
    simp only [List.mapM_cons, Option.bind_eq_bind, Option.bind_eq_some_iff] at h
    obtain ⟨y, hy, r', hr, h⟩ := h
    simp at h; subst h
    simp only [List.mapM_cons, Sem.run_bind, hf x y hy, Result.andThen_ok, ih r' hr, Sem.run_pure]

theorem build_okS {t : TypeId} {fs : Array Field} {z : Value} {parts : Array (Nat × Operand)} {pl : List (Nat × Nat)} {ps : List (Nat × Nat × Arg)} (hr : HR σ base B H w) (ht : TR σ B e a) (hop : o.op = .build t parts)
    (hz : zeroT P t = some z) (hk : constV 9 z = true) (hu : P.underlying t = some (.struct fs)) (hpl : (fs.toList.mapM fun f => (szT P f.type).map fun n => (f.offset, n)) = some pl)
    (hc : cParts τ σ (pl[·]?) parts.toList = some ps) (h : aop (.build z.cells.toList ps) e H = some (v, H')) : OpOK P σ base B H w a o v H' := by
  simp only [aop, Option.bind_eq_some_iff, Option.map_eq_some_iff] at h
  obtain ⟨vs, hvs, cs, hcs, he⟩ := h
  injection he with e1 e2; subst e1; subst e2
  obtain ⟨cs', h1, h2⟩ := fill_run ht hc hvs (VR.const 9 z hk).cells hcs
  refine OpOK.pure hr ?_ (.agg' (cs' := ⟨cs'⟩) h2)
  have hm : (fs.mapM (fun (f : Field) => do pure (f.offset, ← sizeOf f.type) : Field → Sem (Nat × Nat))).run P w = .ok ⟨pl⟩ w := by
    have h0 := mapM_run (P := P) (f := fun (f : Field) => (do pure (f.offset, ← sizeOf f.type) : Sem (Nat × Nat))) (g := fun f => (szT P f.type).map fun n => (f.offset, n)) (fun x y hy w => by
      simp only [Option.map_eq_some_iff] at hy
      obtain ⟨n, hn, rfl⟩ := hy
      simp only [Sem.run_bind, szT_run hn, Result.andThen_ok, Sem.run_pure]) fs.toList pl hpl w
    have h1 := Array.toList_mapM (m := Sem) (f := fun (f : Field) => (do pure (f.offset, ← sizeOf f.type) : Sem (Nat × Nat))) (xs := fs)
    rw [← h1] at h0
    simp only [Sem.run_map] at h0
    cases hq : (fs.mapM (fun (f : Field) => do pure (f.offset, ← sizeOf f.type) : Field → Sem (Nat × Nat))).run P w with
    | ok r w1 =>
      rw [hq] at h0
      simp only [Result.andThen_ok, Result.ok.injEq] at h0
      obtain ⟨h0, rfl⟩ := h0
      rw [← h0]
    | halt x w1 => rw [hq] at h0; simp at h0
  have hpl' : (fun (i : Nat) => (⟨pl⟩ : Array (Nat × Nat))[i]?) = (fun (i : Nat) => pl[i]?) := by funext i; simp
  have hz' : (⟨z.cells.toList⟩ : Array Value) = z.cells := rfl
  rw [hz'] at h1
  simp only [execOp, hop, Instr.build, Sem.run_bind, zeroT_run hz, run_underlying hu, hm, Result.andThen_ok, Sem.run_pure, hpl', Array.toList_map, h1]

theorem build_okA {t el : TypeId} {n sz : Nat} {z : Value} {parts : Array (Nat × Operand)} {ps : List (Nat × Nat × Arg)} (hr : HR σ base B H w) (ht : TR σ B e a) (hop : o.op = .build t parts)
    (hz : zeroT P t = some z) (hk : constV 9 z = true) (hu : P.underlying t = some (.array n el)) (hs : szT P el = some sz)
    (hc : cParts τ σ (fun i => some (i * sz, sz)) parts.toList = some ps) (h : aop (.build z.cells.toList ps) e H = some (v, H')) : OpOK P σ base B H w a o v H' := by
  simp only [aop, Option.bind_eq_some_iff, Option.map_eq_some_iff] at h
  obtain ⟨vs, hvs, cs, hcs, he⟩ := h
  injection he with e1 e2; subst e1; subst e2
  obtain ⟨cs', h1, h2⟩ := fill_run ht hc hvs (VR.const 9 z hk).cells hcs
  refine OpOK.pure hr ?_ (.agg' (cs' := ⟨cs'⟩) h2)
  have hz' : (⟨z.cells.toList⟩ : Array Value) = z.cells := rfl
  rw [hz'] at h1
  simp only [execOp, hop, Instr.build, Sem.run_bind, zeroT_run hz, run_underlying hu, szT_run hs, Result.andThen_ok, Sem.run_pure, Array.toList_map, h1]

theorem range_mod (z : Array Value) : ∀ l : Nat, (List.range (l * z.size)).map (fun i => z[i % z.size]!) = (List.replicate l z.toList).flatten := by
  intro l
  induction l with
  | zero => simp
  | succ l ih =>
    rw [Nat.succ_mul, List.range_add, List.map_append, ih, List.replicate_succ', List.flatten_append]
    congr 1
    simp only [List.map_map, List.flatten_cons, List.flatten_nil, List.append_nil]
    apply List.ext_getElem?
    intro j
    by_cases hj : j < z.size
    · rw [List.getElem?_map, List.getElem?_range hj]
      simp only [zah, Function.comp, Nat.mul_add_mod_self_right, Nat.mod_eq_of_lt hj]
      simp [hj]
    · rw [List.getElem?_eq_none (by simp; omega), List.getElem?_eq_none (by simp; omega)]

theorem buildS_ok {t el : TypeId} {len sz : Nat} {z : Value} {parts : Array (Nat × Operand)} {ps : List (Nat × Nat × Arg)} (hr : HR σ base B H w) (ht : TR σ B e a) (hop : o.op = .buildSlice t len parts)
    (hz : zeroT P el = some z) (hk : constV 9 z = true) (hu : P.underlying t = some (.slice el)) (hs : szT P el = some sz) (hlen : len * sz ≤ 10000) (hzs : z.cells.size = sz) (h0 : 0 < sz)
    (hc : cParts τ σ (fun i => some (i * sz, sz)) parts.toList = some ps) (h : aop (.buildS sz len (List.replicate len z.cells.toList).flatten ps) e H = some (v, H')) : OpOK P σ base B H w a o v H' := by
  simp only [aop, Option.bind_eq_some_iff, Option.map_eq_some_iff] at h
  obtain ⟨vs, hvs, cs, hcs, he⟩ := h
  injection he with e1 e2; subst e1; subst e2
  obtain ⟨cs', h1, h2⟩ := fill_run ht hc hvs ((VR.const (σ := σ) (B := B) 9 z hk).cells.of_flatten_replicate len) hcs
  obtain ⟨g1, g2⟩ := new_ok (ty := el) hr h2 rfl
  have hl0 : ∀ (vs : List (Nat × Nat × Value)) (l cs : List Value), fillL l vs = some cs → cs.length = l.length := by
    intro vs
    induction vs with
    | nil => intro l cs h; simp only [fillL, Option.some.injEq] at h; rw [h]
    | cons p vs ih =>
      obtain ⟨o1, s1, v1⟩ := p
      intro l cs h
      simp only [fillL] at h
      split at h
      · rw [ih _ _ h, splice_length]
      · simp at h
  have hcl : cs'.length = len * sz := by
    rw [← h2.1, hl0 _ _ _ hcs]
    simp [List.length_flatten, hzs]
  refine ⟨.slice (some ⟨w.heap.size, 0 + 0, none⟩) len len, _, _, .inl ?_, .slice H.length 0 len sz len ⟨w.heap.size, 0, _⟩ (bind1_self _ _ _) (Nat.le_refl _) (fun s hs => by simp at hs; omega), g1, g2⟩
  have hza : ((Array.range (len * sz)).map (fun i => (if len * sz = 0 then (#[] : Array Value) else z.cells)[i % (if len * sz = 0 then (#[] : Array Value) else z.cells).size]!)) = ⟨(List.replicate len z.cells.toList).flatten⟩ := by
    apply Array.ext'
    by_cases hl : len = 0
    · subst hl; simp
    · have : ¬ len * sz = 0 := Nat.mul_ne_zero hl (by omega)
      rw [if_neg this, Array.toList_map, Array.toList_range]
      rw [← range_mod z.cells, hzs]
  have hbig : ¬ (len * sz > 2 ^ 24) := by omega
  simp only [execOp, hop, Instr.buildSlice, Sem.run_bind, run_underlying hu, szT_run hs, Result.andThen_ok, if_neg hbig, Sem.run_ite, Sem.run_pure, zeroT_run hz]
  have h1' : Instr.fill (fun i => some (i * sz, sz)) ⟨(List.replicate len z.cells.toList).flatten⟩ (parts.map (fun x => (x.fst, a.eval x.snd))).toList = some ⟨cs'⟩ := by
    rw [Array.toList_map]; exact h1
  by_cases hl : len * sz = 0
  · rw [if_pos hl] at hza ⊢
    rw [hza, h1']
    simp only [newRow, Sem.run_bind, run_newObj, Sem.run_pure, zba, Result.andThen_ok]
  · rw [if_neg hl] at hza ⊢
    rw [hza, h1']
    simp only [newRow, Sem.run_bind, run_newObj, Sem.run_pure, zba, Result.andThen_ok]

end
end Go.Proofs.Ytejcabdejoameaa.AI

/- Operations, fifth part: conversions, slices, built-in functions. -/
namespace Go.Proofs.Ytejcabdejoameaa.AI
open Go

section
variable {P : Program} {τ σ : Nat → Nat} {base : Nat} {B : Map} {H : Heap} {w : World} {e : Env} {a : Act} {o : Oper} {v : Value} {H' : Heap}

theorem cvI_ok {s d : TypeId} {k k0 : IntKind} {x : Operand} {x' : Arg} (hr : HR σ base B H w) (ht : TR σ B e a) (hop : o.op = .convert s d x)
    (hs : P.underlying s = some (.int k0)) (hd : P.underlying d = some (.int k)) (hx : cArg τ σ x = some x') (h : aop (.cvI k x') e H = some (v, H')) : OpOK P σ base B H w a o v H' := by
  simp only [aop, Option.bind_eq_some_iff, Option.map_eq_some_iff] at h
  obtain ⟨vx, hvx, n, hn, he⟩ := h
  injection he with e1 e2; subst e1; subst e2
  obtain ⟨k1, rfl⟩ := intOf_eq hn
  have ex := (ev_sound ht hx hvx).of_int
  refine OpOK.pure hr ?_ (.atom _ rfl)
  simp only [execOp, hop, ex, convert, Conv.intToInt, Sem.run_bind, run_underlying hs, run_underlying hd, Result.andThen_ok, Sem.run_pure]

theorem cvIS_ok {s d : TypeId} {k0 : IntKind} {x : Operand} {x' : Arg} (hr : HR σ base B H w) (ht : TR σ B e a) (hop : o.op = .convert s d x)
    (hs : P.underlying s = some (.int k0)) (hd : P.underlying d = some .string) (hx : cArg τ σ x = some x') (h : aop (.cvIS x') e H = some (v, H')) : OpOK P σ base B H w a o v H' := by
  simp only [aop, Option.bind_eq_some_iff, Option.map_eq_some_iff] at h
  obtain ⟨vx, hvx, n, hn, r, hr0, he⟩ := h
  injection he with e1 e2; subst e1; subst e2
  obtain ⟨k1, rfl⟩ := intOf_eq hn
  have ex := (ev_sound ht hx hvx).of_int
  simp only [Conv.intToString, Pure.pure, eval0, Option.some.injEq] at hr0
  subst hr0
  refine OpOK.pure hr ?_ (.atom _ rfl)
  simp only [execOp, hop, ex, convert, Conv.intToString, Sem.run_bind, run_underlying hs, run_underlying hd, Result.andThen_ok, Sem.run_pure]

theorem cvSS_ok {s d : TypeId} {x : Operand} {x' : Arg} (hr : HR σ base B H w) (ht : TR σ B e a) (hop : o.op = .convert s d x)
    (hs : P.underlying s = some .string) (hd : P.underlying d = some .string) (hx : cArg τ σ x = some x') (h : aop (.cvSS x') e H = some (v, H')) : OpOK P σ base B H w a o v H' := by
  simp only [aop] at h
  split at h
  · rename_i b hvx
    injection h with h; injection h with e1 e2; subst e1; subst e2
    have ex := (ev_sound ht hx hvx).of_string
    refine OpOK.pure hr ?_ (.atom _ rfl)
    simp only [execOp, hop, ex, convert, Sem.run_bind, run_underlying hs, run_underlying hd, Result.andThen_ok, Sem.run_pure]
  · simp at h

theorem cvSB_ok {s d el : TypeId} {x : Operand} {x' : Arg} (hr : HR σ base B H w) (ht : TR σ B e a) (hop : o.op = .convert s d x)
    (hs : P.underlying s = some .string) (hd : P.underlying d = some (.slice el)) (hel : P.underlying el = some (.int .u8)) (hx : cArg τ σ x = some x') (h : aop (.cvSB x') e H = some (v, H')) :
    OpOK P σ base B H w a o v H' := by
  simp only [aop] at h
  split at h
  · rename_i b hvx
    injection h with h; injection h with e1 e2; subst e1; subst e2
    have ex := (ev_sound ht hx hvx).of_string
    have hrun := run_bytes_of_string (P := P) w s d el b hs hd hel
    have hge := grownCap_ge w b.size 0 el
    generalize grownCap w b.size 0 el = c at hrun hge
    have hsz : (bytesRow b c).toList.length = c := by simp [bytesRow]; omega
    have hsz' : (bytesRow b c).size = c := by simpa using hsz
    have hvs : VRs σ B (b.data.toList.map fun b => (Value.int .u8 b.toNat)) ((bytesRow b c).toList.take (b.data.toList.map fun b => (Value.int .u8 b.toNat)).length) := by
      have e1 : (bytesRow b c).toList = (b.data.toList.map fun b => (Value.int .u8 b.toNat)) ++ List.replicate (c - b.size) (.int .u8 0) := by simp [bytesRow]
      rw [e1, List.take_left]
      refine ⟨rfl, fun j x x' hx hx' => ?_⟩
      rw [hx] at hx'; injection hx' with hx'; subst hx'
      rw [List.getElem?_map] at hx
      simp only [Option.map_eq_some_iff] at hx
      obtain ⟨y, _, rfl⟩ := hx
      exact .atom _ rfl
    obtain ⟨h1, h2⟩ := hr.alloc (w' := w.drew.alloc (.cells (bytesRow b c) el ((bytesRow b c).size, (bytesRow b c).size + 1))) (cs := (bytesRow b c).toList) rfl rfl rfl rfl
      (fun o ho => by simp only [hsz'] ; omega) (by simp; have : b.data.size = b.size := rfl; omega) hvs
    refine ⟨_, _, _, .inl ?_, .slice H.length 0 b.size 1 c ⟨w.heap.size, 0, some (bytesRow b c).toList.length⟩ (bind1_self _ _ _) hge (fun s hs => by simp at hs; omega), h1, h2⟩
    simp only [execOp, hop, ex, Sem.run_bind, hrun, Result.andThen_ok, Sem.run_pure, zba]
  · simp at h

theorem bytesOf_eq : ∀ {cs : List Value} {l : List UInt8}, bytesOf? cs = some l → ∃ ns : List Int, cs = ns.map (Value.int .u8) ∧ l = ns.map fun n => UInt8.ofNat n.toNat := by
  intro cs
  induction cs with
  | nil => intro l h; simp only [bytesOf?, Option.some.injEq] at h; subst h; exact ⟨[], rfl, rfl⟩
  | cons c cs ih =>
    intro l h
    unfold bytesOf? at h
    split at h
    · simp at *
    · rename_i n r heq
      injection heq with e1 e2; subst e1; subst e2
      simp only [Option.map_eq_some_iff] at h
      obtain ⟨l', hl', rfl⟩ := h
      obtain ⟨ns, rfl, rfl⟩ := ih hl'
      exact ⟨n :: ns, rfl, rfl⟩
    · simp at h

theorem foldl_push : ∀ (ns : List Int) (s : ByteArray), ns.foldl (fun r n => r.push (UInt8.ofNat n.toNat)) s = ⟨s.data ++ (ns.map fun n => UInt8.ofNat n.toNat).toArray⟩ := by
  intro ns
  induction ns with
  | nil => intro s; simp
  | cons n ns ih => intro s; simp only [List.foldl_cons, ih]; simp [ByteArray.push]

theorem VRs.of_ints {ns : List Int} {k : IntKind} {l : List Value} (h : VRs σ B (ns.map (Value.int k)) l) : l = ns.map (Value.int k) := by
  apply List.ext_getElem?
  intro j
  by_cases hj : j < ns.length
  · have h1 : (ns.map (Value.int k))[j]? = some (.int k ns[j]) := by simp [hj]
    obtain ⟨x', hx', r⟩ := h.get h1
    rw [hx', h1, r.of_int]
  · have := h.1; simp at this
    rw [List.getElem?_eq_none (by omega), List.getElem?_eq_none (by simp; omega)]

/-- The cells that a slice of memory, or a string, shows. -/
theorem firstCells_run (hr : HR σ base B H w) {s s' : Value} {sz n : Nat} {cs : List Value} (rv : VR σ B s s') (hn : lenV s = some n) (h : yda H sz s = some cs) :
    ∃ cs', (∀ w' : World, w'.heap = w.heap → (Builtin.firstCells sz n s').run P w' = .ok ⟨cs'⟩ w') ∧ VRs σ B cs cs' ∧ (∀ w' : World, (Builtin.lenOf s').run P w' = .ok n w') ∧ cs.length = n * sz ∧ (∀ k, k ≤ n → (Builtin.firstCells sz k s').run P w = .ok ⟨cs'.take (k * sz)⟩ w) := by
  unfold yda at h
  split at h
  · injection h with h; subst h
    simp only [lenV, Option.some.injEq] at hn; subst hn
    obtain ⟨a', c, rfl⟩ := rv.of_nothing
    have hk0 : ∀ w' : World, (Builtin.firstCells sz 0 (.slice a' 0 c)).run P w' = .ok ⟨[]⟩ w' := by
      intro w'
      cases a' <;> simp [Builtin.firstCells, loadCells, loadCellsFrom]
    refine ⟨[], fun w' _ => hk0 w', VRs.nil, fun _ => rfl, by simp, fun k hk => ?_⟩
    obtain rfl : k = 0 := by omega
    simpa using hk0 w
  · rename_i ad m z
    simp only [lenV, Option.some.injEq] at hn; subst hn
    obtain ⟨p, c, hp, hs, hcase⟩ := rv.of_slice
    have hlen : ∀ w' : World, (Builtin.lenOf s').run P w' = .ok m w' := by
      intro w'
      rcases hcase with ⟨rfl, _⟩ | ⟨rfl, _, a', rfl⟩ <;> rfl
    by_cases h0 : m = 0
    · rw [if_pos h0] at h
      injection h with h; subst h; subst h0
      have hk0 : ∀ w' : World, (Builtin.firstCells sz 0 s').run P w' = .ok ⟨[]⟩ w' := by
        intro w'
        rcases hcase with ⟨rfl, _⟩ | ⟨_, _, a', rfl⟩
        · simp [Builtin.firstCells, loadCells, loadCellsFrom]
        · cases a' <;> simp [Builtin.firstCells, loadCells, loadCellsFrom]
      refine ⟨[], fun w' _ => hk0 w', VRs.nil, hlen, by simp, fun k hk => ?_⟩
      obtain rfl : k = 0 := by omega
      simpa using hk0 w
    · rw [if_neg h0] at h
      simp only [Option.bind_eq_some_iff] at h
      obtain ⟨b, hb, h⟩ := h
      split at h
      · rename_i hle
        injection h with h; subst h
        rcases hcase with ⟨rfl, _⟩ | ⟨h1, _⟩
        · obtain ⟨vs, hvs, hl, hc⟩ := hr.cells hb hp ad.off (m * sz) hle
          refine ⟨vs, fun w' hw' => ?_, hvs, hlen, by rw [hvs.1, hl], fun k hk => run_firstCells_some w sz k _ m c _ (by rw [List.length_take, hl]; exact Nat.min_eq_left (Nat.mul_le_mul_right _ hk)) (fun j v hv => by
            rw [List.getElem?_take] at hv
            split at hv
            · rw [Addr_add]; exact hc j v hv
            · simp at hv)⟩
          have hcell : ∀ x : Addr, w'.cell? x = w.cell? x := fun x => by simp [World.cell?, hw']
          exact run_firstCells_some w' sz m _ m c vs hl (fun j v hv => by rw [Addr_add, hcell]; exact hc j v hv)
        · exact absurd h1 h0
      · simp at h
  · rename_i b
    simp only [lenV, Option.some.injEq] at hn; subst hn
    split at h
    · rename_i h1
      injection h with h; subst h; subst h1
      have := rv.of_string; subst this
      refine ⟨b.data.toList.map fun b => .int .u8 b.toNat, fun w' _ => ?_, ?_, fun _ => rfl, by simp, fun k hk => ?_⟩
      · simp only [Builtin.firstCells, Sem.run_pure]
        congr 1
        apply Array.ext'
        have : b.extract 0 b.size = b := by simp
        rw [this]
        simp
      · refine ⟨rfl, fun j x x' hx hx' => ?_⟩
        rw [hx] at hx'; injection hx' with hx'; subst hx'
        rw [List.getElem?_map] at hx
        simp only [Option.map_eq_some_iff] at hx
        obtain ⟨y, _, rfl⟩ := hx
        exact .atom _ rfl
      · simp only [Builtin.firstCells, Sem.run_pure]
        congr 1
        apply Array.ext'
        rw [Array.toList_map, ← List.map_take]
        congr 1
        simp [ByteArray.data_extract]
    · simp at h
  · simp at h

theorem cvBS_ok {s d el : TypeId} {x : Operand} {x' : Arg} (hr : HR σ base B H w) (ht : TR σ B e a) (hop : o.op = .convert s d x)
    (hs : P.underlying s = some (.slice el)) (hel : P.underlying el = some (.int .u8)) (hd : P.underlying d = some .string) (hx : cArg τ σ x = some x') (h : aop (.cvBS x') e H = some (v, H')) :
    OpOK P σ base B H w a o v H' := by
  simp only [aop] at h
  split at h
  · rename_i ad n c hvx
    simp only [Option.bind_eq_some_iff, Option.map_eq_some_iff] at h
    obtain ⟨cs, hcs, l, hl, he⟩ := h
    injection he with e1 e2; subst e1; subst e2
    have rv := ev_sound ht hx hvx
    obtain ⟨cs', hrun, hvs, _, hlen, _⟩ := firstCells_run (P := P) hr rv rfl hcs
    have hrun := hrun w rfl
    obtain ⟨ns, rfl, rfl⟩ := bytesOf_eq hl
    have hcs' := hvs.of_ints; subst hcs'
    refine OpOK.pure hr ?_ (.atom _ rfl)
    have key : (Conv.bytesToString (a.eval x)).run P w = .ok (.string ⟨(ns.map fun n => UInt8.ofNat n.toNat).toArray⟩) w := by
      generalize a.eval x = y at rv hrun
      have nn : ns = [] → (ns.map fun n => UInt8.ofNat n.toNat).toArray = (ByteArray.empty).data := fun h => by subst h; rfl
      cases y with
      | slice ao m c' =>
        cases ao with
        | none =>
          simp only [Builtin.firstCells, Sem.run_pure, Result.ok.injEq, and_true] at hrun
          have : ns = [] := by
            have := congrArg Array.size hrun
            simp at this
            exact List.eq_nil_of_length_eq_zero this.symm
          simp only [Conv.bytesToString, Sem.run_pure, nn this]
        | some ad' =>
          have hm : m = n := by
            cases ad with
            | none => cases rv; rfl
            | some ad =>
              obtain ⟨p, c1, _, _, hcase⟩ := rv.of_slice
              rcases hcase with ⟨he, _⟩ | ⟨h0, _, a', he⟩
              · injection he
              · injection he with _ e2 _; omega
          subst hm
          simp only [Builtin.firstCells, Nat.mul_one] at hrun
          rw [run_bytesToString w ad' m c' ns hrun, foldl_push]
          simp [ByteArray.empty, ByteArray.emptyWithCapacity]
          rfl
      | _ => cases rv
    simp only [execOp, hop, Sem.run_bind]
    have hcv : (convert s d (a.eval x)).run P w = (Conv.bytesToString (a.eval x)).run P w := by
      generalize a.eval x = y at rv
      cases y with
      | slice ao m c' => exact run_convert_bytes_string w s d el ao m c' hs hel hd
      | _ => cases rv
    rw [hcv, key]
    simp only [Result.andThen_ok, Sem.run_pure]
  · simp at h

end
end Go.Proofs.Ytejcabdejoameaa.AI

/- Operations, sixth part: slices, built-in functions. -/
namespace Go.Proofs.Ytejcabdejoameaa.AI
open Go

section
variable {P : Program} {τ σ : Nat → Nat} {base : Nat} {B : Map} {H : Heap} {w : World} {e : Env} {a : Act} {o : Oper} {v : Value} {H' : Heap}

theorem evo_sound (ht : TR σ B e a) {x : Option Operand} {y : Option Arg} {v : Option Value} (hc : cOpt τ σ x = some y) (h : evo e y = some v) :
    (v = none ∧ x.map a.eval = none) ∨ ∃ u u', v = some u ∧ x.map a.eval = some u' ∧ VR σ B u u' := by
  cases x with
  | none =>
    simp only [cOpt, Option.some.injEq] at hc; subst hc
    simp only [evo, Option.some.injEq] at h; subst h
    exact .inl ⟨rfl, rfl⟩
  | some x =>
    simp only [cOpt, Option.map_eq_some_iff] at hc
    obtain ⟨y', hy, rfl⟩ := hc
    simp only [evo, Option.map_eq_some_iff] at h
    obtain ⟨u, hu, rfl⟩ := h
    exact .inr ⟨u, _, rfl, rfl, ev_sound ht hy hu⟩

theorem bounds_run {isS : Bool} {n c l h : Nat} {lo hi lo' hi' : Option Value} (hc : n ≤ c) (hb : boundsOf n n lo hi = some (l, h))
    (h1 : (lo = none ∧ lo' = none) ∨ ∃ u u', lo = some u ∧ lo' = some u' ∧ VR σ B u u') (h2 : (hi = none ∧ hi' = none) ∨ ∃ u u', hi = some u ∧ hi' = some u' ∧ VR σ B u u') :
    (Instr.sliceBounds isS n c lo' hi' none).run P w = .ok (l, h, c) w ∧ l ≤ h ∧ h ≤ n := by
  unfold boundsOf at hb
  simp only [Option.bind_eq_some_iff] at hb
  obtain ⟨h0, hh, l0, hl, hb⟩ := hb
  simp only [Option.some.injEq, Prod.mk.injEq] at hb
  obtain ⟨rfl, rfl⟩ := hb
  have H2 : (hi' = none ∧ h0 = n) ∨ ∃ k i, hi' = some (.int k i) ∧ 0 ≤ i ∧ i ≤ (n : Int) ∧ h0 = i.toNat := by
    rcases h2 with ⟨rfl, rfl⟩ | ⟨u, u', rfl, rfl, r⟩
    · simp only [Option.some.injEq] at hh
      exact .inl ⟨rfl, hh.symm⟩
    · simp only [Option.bind_eq_some_iff] at hh
      obtain ⟨i, hi, hh⟩ := hh
      obtain ⟨k, rfl⟩ := intOf_eq hi
      have := r.of_int; subst this
      split at hh
      · rename_i hle
        injection hh with hh
        exact .inr ⟨k, i, rfl, hle.1, hle.2, hh.symm⟩
      · simp at hh
  have H1 : (lo' = none ∧ l0 = 0) ∨ ∃ k i, lo' = some (.int k i) ∧ 0 ≤ i ∧ i ≤ (h0 : Int) ∧ l0 = i.toNat := by
    rcases h1 with ⟨rfl, rfl⟩ | ⟨u, u', rfl, rfl, r⟩
    · simp only [Option.some.injEq] at hl
      exact .inl ⟨rfl, hl.symm⟩
    · simp only [Option.bind_eq_some_iff] at hl
      obtain ⟨i, hi, hl⟩ := hl
      obtain ⟨k, rfl⟩ := intOf_eq hi
      have := r.of_int; subst this
      split at hl
      · rename_i hle
        injection hl with hl
        exact .inr ⟨k, i, rfl, hle.1, hle.2, hl.symm⟩
      · simp at hl
  have hhn : h0 ≤ n := by rcases H2 with ⟨_, rfl⟩ | ⟨_, _, _, _, _, rfl⟩ <;> omega
  have hlh : l0 ≤ h0 := by rcases H1 with ⟨_, rfl⟩ | ⟨_, _, _, _, _, rfl⟩ <;> omega
  refine ⟨?_, hlh, hhn⟩
  clear h1 h2 hh hl
  rcases H2 with ⟨rfl, rfl⟩ | ⟨k2, i2, rfl, q1, q2, rfl⟩ <;> rcases H1 with ⟨rfl, rfl⟩ | ⟨k1, i1, rfl, q3, q4, rfl⟩
  · simp only [Instr.sliceBounds, Sem.run_bind, Sem.run_pure, Result.andThen_ok]
  · simp only [Instr.sliceBounds, Instr.sliceBound, asIntOf, Sem.run_bind, Sem.run_pure, Result.andThen_ok, Sem.run_ite, q3, q4, and_self, if_true]
  · have q5 : i2 ≤ (c : Int) := by omega
    simp only [Instr.sliceBounds, Instr.sliceBound, asIntOf, Sem.run_bind, Sem.run_pure, Result.andThen_ok, Sem.run_ite, q1, q5, and_self, if_true]
  · have q5 : i2 ≤ (c : Int) := by omega
    simp only [Instr.sliceBounds, Instr.sliceBound, asIntOf, Sem.run_bind, Sem.run_pure, Result.andThen_ok, Sem.run_ite, q1, q5, q3, q4, and_self, if_true]

theorem slS_ok {t : TypeId} {x : Operand} {lo hi mx : Option Operand} {x' : Arg} {lo' hi' : Option Arg} (hr : HR σ base B H w) (ht : TR σ B e a) (hop : o.op = .slice t x lo hi mx) (hmx : mx = none)
    (hu : P.underlying t = some .string) (hx : cArg τ σ x = some x') (hl : cOpt τ σ lo = some lo') (hh : cOpt τ σ hi = some hi') (h : aop (.slS x' lo' hi') e H = some (v, H')) :
    OpOK P σ base B H w a o v H' := by
  simp only [aop] at h
  split at h
  · rename_i s l1 h1 hvx hvl hvh
    simp only [Option.map_eq_some_iff] at h
    obtain ⟨⟨l, hb⟩, hbb, he⟩ := h
    injection he with e1 e2; subst e1; subst e2
    have ex := (ev_sound ht hx hvx).of_string
    obtain ⟨hrun, _, _⟩ := bounds_run (P := P) (w := w) (isS := false) (Nat.le_refl _) hbb (evo_sound ht hl hvl) (evo_sound ht hh hvh)
    refine OpOK.pure hr ?_ (.atom _ rfl)
    subst hmx
    simp only [execOp, hop, ex, Instr.sliceAt, Instr.slice, Sem.run_bind, run_underlying hu, Result.andThen_ok, Option.map_none, zac, Bool.false_eq_true, if_false, hrun, Sem.run_pure]
  · simp at h

theorem slL_ok {t el : TypeId} {sz : Nat} {x : Operand} {lo hi mx : Option Operand} {x' : Arg} {lo' hi' mx' : Option Arg} (hr : HR σ base B H w) (ht : TR σ B e a) (hop : o.op = .slice t x lo hi mx)
    (hu : P.underlying t = some (.slice el)) (hs : szT P el = some sz) (hx : cArg τ σ x = some x') (hl : cOpt τ σ lo = some lo') (hh : cOpt τ σ hi = some hi') (hm : cOpt τ σ mx = some mx')
    (h : aop (.slL sz x' lo' hi' mx') e H = some (v, H')) : OpOK P σ base B H w a o v H' := by
  simp only [aop] at h
  split at h
  · rename_i ad n z l1 h1 hvx hvl hvh
    have hmx : mx = none := by
      cases mx with
      | none => rfl
      | some m => simp [cOpt] at hm
    simp only [Option.bind_eq_some_iff] at h
    obtain ⟨⟨l, hb⟩, hbb, h⟩ := h
    simp only at h
    split at h
    · rename_i hlt
      obtain ⟨hlt, rfl⟩ := hlt
      injection h with h; injection h with e1 e2; subst e1; subst e2
      obtain ⟨p, c, hp, hsp, hcase⟩ := (ev_sound ht hx hvx).of_slice
      rcases hcase with ⟨ex, hnc, hsz⟩ | ⟨h0, _⟩
      · obtain ⟨hrun, hlh, hhn⟩ := bounds_run (P := P) (w := w) (isS := true) hnc hbb (evo_sound ht hl hvl) (evo_sound ht hh hvh)
        refine OpOK.pure (v' := .slice (some ⟨p.blk, p.off + (ad.off + l * z), none⟩) (hb - l) (c - l)) hr ?_ (.slice _ _ _ _ _ p hp (by omega) (fun s hps => ?_))
        · subst hmx
          have : ¬ (c = l) := by omega
          simp only [execOp, hop, ex, Instr.sliceAt, Instr.slice, Sem.run_bind, run_underlying hu, Result.andThen_ok, Option.map_none, hrun, szT_run hs, Sem.run_pure, this, if_false, zah, Addr_add, Nat.add_assoc]
        · have := hsz s hps
          have : (c - l) * z + l * z = c * z := by rw [← Nat.add_mul]; congr 1; omega
          omega
      · omega
    · split at h
      · rename_i hnlt hln
        subst hln
        injection h with h; injection h with e1 e2; subst e1; subst e2
        obtain ⟨p, c, hp, hsp, hcase⟩ := (ev_sound ht hx hvx).of_slice
        have hact : ∃ ap, a.eval x = .slice ap l c ∧ l ≤ c := by
          rcases hcase with ⟨ex, hnc, _⟩ | ⟨h0, _, a', ex⟩
          · exact ⟨_, ex, hnc⟩
          · subst h0; exact ⟨a', ex, Nat.zero_le _⟩
        obtain ⟨ap, ex, hnc⟩ := hact
        obtain ⟨hrun, hlh, hhn⟩ := bounds_run (P := P) (w := w) (isS := true) hnc hbb (evo_sound ht hl hvl) (evo_sound ht hh hvh)
        have hbl : hb = l := by omega
        subst hbl
        refine OpOK.pure (v' := .slice (if c = hb then ap else ap.map (·.add (hb * sz))) 0 (c - hb)) hr ?_ (.void _ _)
        subst hmx
        simp only [execOp, hop, ex, Instr.sliceAt, Instr.slice, Sem.run_bind, run_underlying hu, Result.andThen_ok, Option.map_none, hrun, szT_run hs, Sem.run_pure, Nat.sub_self]
      · simp at h
  · rename_i z l1 h1 hvx hvl hvh
    have hmx : mx = none := by
      cases mx with
      | none => rfl
      | some m => simp [cOpt] at hm
    simp only [Option.bind_eq_some_iff] at h
    obtain ⟨⟨l, hb⟩, hbb, h⟩ := h
    injection h with h; injection h with e1 e2; subst e1; subst e2
    obtain ⟨ap, c, ex⟩ := (ev_sound ht hx hvx).of_nothing
    obtain ⟨hrun, hlh, hhn⟩ := bounds_run (P := P) (w := w) (isS := true) (Nat.zero_le c) hbb (evo_sound ht hl hvl) (evo_sound ht hh hvh)
    obtain rfl : hb = 0 := by omega
    obtain rfl : l = 0 := by omega
    refine OpOK.pure (v' := .slice (if c = 0 then ap else ap.map (·.add (0 * sz))) 0 (c - 0)) hr ?_ (.void _ _)
    subst hmx
    simp only [execOp, hop, ex, Instr.sliceAt, Instr.slice, Sem.run_bind, run_underlying hu, Result.andThen_ok, Option.map_none, hrun, szT_run hs, Sem.run_pure, Nat.sub_self]
  · simp at h

theorem slA_ok {t el : TypeId} {sz n : Nat} {x : Operand} {lo hi mx : Option Operand} {x' : Arg} {lo' hi' : Option Arg} (hr : HR σ base B H w) (ht : TR σ B e a) (hop : o.op = .slice t x lo hi mx) (hmx : mx = none)
    (hu : P.underlying t = some (.array n el)) (hs : szT P el = some sz) (hx : cArg τ σ x = some x') (hl : cOpt τ σ lo = some lo') (hh : cOpt τ σ hi = some hi')
    (h : aop (.slA n sz x' lo' hi') e H = some (v, H')) : OpOK P σ base B H w a o v H' := by
  simp only [aop] at h
  split at h
  · rename_i vx l1 h1 hvx hvl hvh
    simp only [Option.bind_eq_some_iff] at h
    obtain ⟨ad, had, ⟨l, hb⟩, hbb, h⟩ := h
    simp only at h
    split at h
    · rename_i hlt
      obtain ⟨hlt, hfit⟩ := hlt
      injection h with h; injection h with e1 e2; subst e1; subst e2
      obtain ⟨rfl, _⟩ := addrOf_eq had
      obtain ⟨p, hp, ex⟩ := (ev_sound ht hx hvx).of_ptr
      obtain ⟨hrun, hlh, hhn⟩ := bounds_run (P := P) (w := w) (isS := false) (Nat.le_refl _) hbb (evo_sound ht hl hvl) (evo_sound ht hh hvh)
      refine OpOK.pure (v' := .slice (some ⟨p.blk, p.off + (ad.off + l * sz), none⟩) (hb - l) (n - l)) hr ?_ (.slice _ _ _ _ _ p hp (by omega) (fun s hps => ?_))
      · subst hmx
        have : ¬ (n = l) := by omega
        simp only [execOp, hop, ex, Instr.sliceAt, Instr.sureAddr, Sem.run_bind, run_underlying hu, Result.andThen_ok, Option.map_none, hrun, szT_run hs, Sem.run_pure, this, if_false, Addr_add, Nat.add_assoc]
      · have hfit2 : ad.off + n * sz ≤ s := by
          cases hb0 : hget H ad.block with
          | none => rw [hb0] at hfit; simp at hfit; omega
          | some b =>
            rw [hb0] at hfit
            simp at hfit
            cases hrw : b.rw with
            | false =>
              obtain ⟨g, o, e1, _⟩ := hr.ro _ b hb0 hrw
              rw [hp] at e1; injection e1 with e1; subst e1; simp at hps
            | true =>
              obtain ⟨g, f, z, cs, ty, fr, e1, _, _, _, _, hle, _⟩ := hr.rw _ b hb0 hrw
              rw [hp] at e1; injection e1 with e1; subst e1; simp at hps; omega
        have : (n - l) * sz + l * sz = n * sz := by rw [← Nat.add_mul]; congr 1; omega
        omega
    · simp at h
  · simp at h

theorem mkF_ok {f : Nat} {fst cap : Array Operand} {fst' cap' : List Arg} (hr : HR σ base B H w) (ht : TR σ B e a) (hop : o.op = .makeFunc (.func f) fst cap) (hf : σ (τ f) = f)
    (h1 : cArgs τ σ fst.toList = some fst') (h2 : cArgs τ σ cap.toList = some cap') (h : aop (.mkF (τ f) fst' cap') e H = some (v, H')) : OpOK P σ base B H w a o v H' := by
  simp only [aop, Option.bind_eq_some_iff, Option.map_eq_some_iff] at h
  obtain ⟨u, hu, c, hc, he⟩ := h
  injection he with e1 e2; subst e1; subst e2
  have r1 := evs_sound ht h1 hu
  have r2 := evs_sound ht h2 hc
  have : VR σ B (.func (.func (τ f)) u.toArray c.toArray) (.func (.func (σ (τ f))) (fst.map a.eval) (cap.map a.eval)) :=
    .func _ _ _ _ _ (by simpa using r1.1) (by simpa using r1.2) (by simpa using r2.1) (by simpa using r2.2)
  rw [hf] at this
  refine OpOK.pure hr ?_ this
  simp only [execOp, hop, Instr.makeFunc, Sem.run_bind, Sem.run_pure, Result.andThen_ok]

/-- A call of a built-in function. -/
theorem exec_builtin {b : Builtin} {args : Array Operand} {tys : Array TypeId} (hop : o.op = .call { callee := .builtin b, args, argTypes := tys }) :
    ∃ cs, execOp a.eval o = builtin b tys o.type cs (args.map a.eval) := by
  refine ⟨args.map fun | .const _ => true | _ => false, ?_⟩
  simp only [execOp, hop, resolve, invoke]
  rfl

theorem args1 {args : Array Operand} {x : Arg} (h : cArgs τ σ args.toList = some [x]) : ∃ y, args = #[y] ∧ cArg τ σ y = some x := by
  obtain ⟨l⟩ := args
  match l, h with
  | [], h => simp [cArgs] at h
  | [y], h => 
    simp only [cArgs, Option.bind_eq_some_iff] at h
    obtain ⟨a, ha, r, hr, h⟩ := h
    simp only [Option.some.injEq] at hr h; subst hr
    injection h with h; subst h
    exact ⟨y, rfl, ha⟩
  | y :: z :: r, h =>
    simp only [cArgs, Option.bind_eq_some_iff] at h
    obtain ⟨a, ha, r, hr, h⟩ := h
    injection h with h; injection h with h h'; subst h'
    obtain ⟨_, _, _, _, hr⟩ := hr
    simp at hr

theorem args2 {args : Array Operand} {x x2 : Arg} (h : cArgs τ σ args.toList = some [x, x2]) : ∃ y y2, args = #[y, y2] ∧ cArg τ σ y = some x ∧ cArg τ σ y2 = some x2 := by
  obtain ⟨l⟩ := args
  match l, h with
  | [], h => simp [cArgs] at h
  | y :: l, h =>
    simp only [cArgs, Option.bind_eq_some_iff] at h
    obtain ⟨a, ha, r, hr, h⟩ := h
    injection h with h; injection h with h h'; subst h; subst h'
    obtain ⟨y2, e2, h2⟩ := args1 (args := ⟨l⟩) hr
    injection e2 with e2; subst e2
    exact ⟨y, y2, rfl, ha, h2⟩

theorem lenS_ok {args : Array Operand} {t : TypeId} {x' : Arg} (hr : HR σ base B H w) (ht : TR σ B e a) (hop : o.op = .call { callee := .builtin .len, args, argTypes := #[t] })
    (hu : P.underlying t = some .string) (hc : cArgs τ σ args.toList = some [x']) (h : aop (.lenS x') e H = some (v, H')) : OpOK P σ base B H w a o v H' := by
  obtain ⟨x, rfl, hx⟩ := args1 hc
  simp only [aop] at h
  split at h
  · rename_i s hvx
    injection h with h; injection h with e1 e2; subst e1; subst e2
    have ex := (ev_sound ht hx hvx).of_string
    obtain ⟨cs, hx⟩ := exec_builtin (a := a) hop
    refine OpOK.pure hr ?_ (.atom _ rfl)
    rw [hx]
    simp [builtin, Builtin.len_, ex, run_underlying hu, goInt]
  · simp at h

theorem lenL_ok {args : Array Operand} {t el : TypeId} {x' : Arg} (hr : HR σ base B H w) (ht : TR σ B e a) (hop : o.op = .call { callee := .builtin .len, args, argTypes := #[t] })
    (hu : P.underlying t = some (.slice el)) (hc : cArgs τ σ args.toList = some [x']) (h : aop (.lenL x') e H = some (v, H')) : OpOK P σ base B H w a o v H' := by
  obtain ⟨x, rfl, hx⟩ := args1 hc
  simp only [aop] at h
  split at h
  · rename_i ad n z hvx
    injection h with h; injection h with e1 e2; subst e1; subst e2
    have rv := ev_sound ht hx hvx
    have : ∃ a' c, a.eval x = .slice a' n c := by
      cases ad with
      | none =>
        generalize a.eval x = y at rv
        cases rv with
        | atom _ hh => exact ⟨none, z, rfl⟩
        | void c a => exact ⟨a, c, rfl⟩
      | some ad =>
        obtain ⟨p, c, _, _, hcase⟩ := rv.of_slice
        rcases hcase with ⟨ex, _⟩ | ⟨h0, _, a', ex⟩
        · exact ⟨_, _, ex⟩
        · subst h0; exact ⟨_, _, ex⟩
    obtain ⟨a', c, ex⟩ := this
    obtain ⟨cs, hx⟩ := exec_builtin (a := a) hop
    refine OpOK.pure hr ?_ (.atom _ rfl)
    rw [hx]
    simp [builtin, Builtin.len_, ex, run_underlying hu, goInt]
  · simp at h

theorem mm_ok {args : Array Operand} {tys : Array TypeId} {xs : List Arg} {mx : Bool} (hr : HR σ base B H w) (ht : TR σ B e a) (hop : o.op = .call { callee := .builtin (if mx then .max else .min), args, argTypes := tys })
    (hc : cArgs τ σ args.toList = some xs) (h : aop (if mx then .maxI xs else .minI xs) e H = some (v, H')) : OpOK P σ base B H w a o v H' := by
  obtain ⟨cs, hx⟩ := exec_builtin (a := a) hop
  have key : ∀ vs k x k' y, evs e xs = some vs → vs = [.int k x, .int k' y] → (args.map a.eval).toList = [.int k x, .int k' y] := by
    intro vs k x k' y hvs hl
    have r := evs_sound ht hc hvs
    subst hl
    obtain ⟨v1, m, e1, r1, r2⟩ := r.of_cons
    obtain ⟨v2, m2, e2, r3, r4⟩ := r2.of_cons
    have : m2 = [] := List.eq_nil_of_length_eq_zero r4.1.symm
    subst this; subst e2
    rw [Array.toList_map, e1, r1.of_int, r3.of_int]
  cases mx with
  | true =>
    simp only [if_true, aop, Option.bind_eq_some_iff] at h
    obtain ⟨vs, hvs, h⟩ := h
    split at h
    · rename_i k x k' y
      split at h
      · rename_i hk
        injection h with h; injection h with e1 e2; subst e1; subst e2
        refine OpOK.pure hr ?_ (.atom _ rfl)
        rw [hx]
        have := key _ _ _ _ _ hvs rfl
        rw [Array.toList_map] at this
        simp [builtin, Builtin.max_, Builtin.max2, this]
      · simp at h
    · simp at h
  | false =>
    simp only [Bool.false_eq_true, if_false, aop, Option.bind_eq_some_iff] at h
    obtain ⟨vs, hvs, h⟩ := h
    split at h
    · rename_i k x k' y
      split at h
      · rename_i hk
        injection h with h; injection h with e1 e2; subst e1; subst e2
        refine OpOK.pure hr ?_ (.atom _ rfl)
        rw [hx]
        have := key _ _ _ _ _ hvs rfl
        rw [Array.toList_map] at this
        simp [builtin, Builtin.min_, Builtin.min2, this]
      · simp at h
    · simp at h

end
end Go.Proofs.Ytejcabdejoameaa.AI

/- Operations, seventh part: make, append, copy, structs compared. -/
namespace Go.Proofs.Ytejcabdejoameaa.AI
open Go

section
variable {P : Program} {τ σ : Nat → Nat} {base : Nat} {B : Map} {H : Heap} {w : World} {e : Env} {a : Act} {o : Oper} {v : Value} {H' : Heap}

theorem take_range_mod (z : Array Value) (l c : Nat) (h : l ≤ c) : (((Array.range (c * z.size)).map fun i => z[i % z.size]!).toList).take (l * z.size) = (List.replicate l z.toList).flatten := by
  rw [Array.toList_map, Array.toList_range, ← List.map_take, List.take_range, ← range_mod z l]
  congr 2
  exact Nat.min_eq_left (Nat.mul_le_mul_right _ h)

theorem mkS_ok {t el : TypeId} {i : TypeInfo} {z : Value} {x y : Operand} {x' y' : Arg} (hr : HR σ base B H w) (ht : TR σ B e a) (hop : o.op = .makeSlice t x y)
    (hu : P.underlying t = some (.slice el)) (hi : P.info? el = some i) (hz : zeroT P el = some z) (hk : constV 9 z = true) (hzs : z.cells.size = i.size) (h0 : 0 < i.size)
    (hx : cArg τ σ x = some x') (hy : cArg τ σ y = some y') (h : aop (.mkS i.bytes z.cells.toList x' y') e H = some (v, H')) : OpOK P σ base B H w a o v H' := by
  simp only [aop, Option.bind_eq_some_iff] at h
  obtain ⟨vl, hvl, l, hl, vc, hvc, c, hc, h⟩ := h
  split at h
  · rename_i hb
    obtain ⟨b1, b2, b3, b4⟩ := hb
    injection h with h; injection h with e1 e2; subst e1; subst e2
    obtain ⟨k1, rfl⟩ := intOf_eq hl
    obtain ⟨k2, rfl⟩ := intOf_eq hc
    have el' := (ev_sound ht hx hvl).of_int
    have ec := (ev_sound ht hy hvc).of_int
    have wl : IntKind.i64.wrap l = l := by rw [IntKind.wrap_i64]; omega
    have wc : IntKind.i64.wrap c = c := by rw [IntKind.wrap_i64]; omega
    have hbytes : (i.bytes : Int) * c ≤ 1000 * 1000000000 := Int.mul_le_mul (by omega) b3 (by omega) (by omega)
    obtain ⟨L, rfl⟩ := Int.eq_ofNat_of_zero_le b1
    obtain ⟨C, rfl⟩ := Int.eq_ofNat_of_zero_le (show 0 ≤ c by omega)
    have hLC : L ≤ C := by omega
    simp only [Int.toNat_natCast] at *
    have hns : ((Array.range (C * i.size)).map (fun j => (if C * i.size = 0 then (#[] : Array Value) else z.cells)[j % (if C * i.size = 0 then (#[] : Array Value) else z.cells).size]!)).toList.take (L * i.size) = (List.replicate L z.cells.toList).flatten := by
      by_cases hC : C = 0
      · have hL : L = 0 := by omega
        subst hC; subst hL; simp
      · rw [if_neg (Nat.mul_ne_zero hC (by omega)), ← hzs, take_range_mod z.cells L C hLC]
    have hlenr : (List.replicate L z.cells.toList).flatten.length = L * i.size := by simp [List.length_flatten, hzs]
    generalize hrow : ((Array.range (C * i.size)).map (fun j => (if C * i.size = 0 then (#[] : Array Value) else z.cells)[j % (if C * i.size = 0 then (#[] : Array Value) else z.cells).size]!)) = row at hns
    have hrs : row.toList.length = C * i.size := by rw [← hrow]; simp
    have hvs : VRs σ B (List.replicate L z.cells.toList).flatten (row.toList.take (List.replicate L z.cells.toList).flatten.length) := by
      rw [hlenr, hns]
      exact (VR.const (σ := σ) (B := B) 9 z hk).cells.of_flatten_replicate L
    obtain ⟨g1, g2⟩ := hr.alloc (w' := { w with heap := w.heap.push (.cells row el) }) (cs := row.toList) rfl rfl rfl rfl (fun o _ => by omega)
      (by rw [hlenr, hrs]; exact Nat.mul_le_mul_right _ hLC) hvs
    refine ⟨.slice (some ⟨w.heap.size, 0 + 0, none⟩) L C, _, _, .inl ?_, .slice H.length 0 L _ C ⟨w.heap.size, 0, some row.toList.length⟩ (bind1_self _ _ _) hLC (fun s hs => by simp at hs; simp at hrs; rw [← hs, hrs]; simp [hzs]), g1, g2⟩
    have t1 : ¬ ((i.bytes : Int) * (C : Int) > 2 ^ 48) := by omega
    have t2 : ¬ ((C : Int) < 0) := by omega
    have t3 : ¬ ((L : Int) < 0) := by omega
    have t4 : ¬ ((L : Int) > (C : Int)) := by omega
    have hti : ∀ w, (typeInfo el).run P w = .ok i w := fun w => by simp [typeInfo, hi]
    have hsz : ∀ w, (sizeOf el).run P w = .ok i.size w := fun w => szT_run (by simp [szT, hi]) w
    simp only [execOp, hop, el', ec, Instr.makeSlice, asInt, asIntOf, Sem.run_bind, run_underlying hu, Result.andThen_ok, Sem.run_pure, hti, wl, wc, t1, t2, t3, t4, zbc, Bool.or_false, Bool.false_eq_true, if_false,
      run_askRoom, hsz, Int.toNat_natCast, Sem.run_ite, zeroT_run hz, newRow, run_newObj]
    by_cases hC : C * i.size = 0
    · rw [if_pos hC] at hrow ⊢
      simp only [Result.andThen_ok]
      rw [hrow]
    · rw [if_neg hC] at hrow ⊢
      simp only [Result.andThen_ok]
      rw [hrow]
  · simp at h

/-- A block goes on under another number: it was written behind its end, and begins later. -/
theorem HR.regrow (h : HR σ base B H w) {i : Nat} {b : Blk} (hi : hget H i = some b) (hb : b.rw = true) {w' : World} {vs : List Value} {off : Nat}
    {g f z : Nat} {cs cs' : List Value} {ty : TypeId} {fr : Nat × Nat} (e : B i = some ⟨g, f, some z⟩) (hg : w.heap[g]? = some (.cells ⟨cs⟩ ty fr))
    (hg' : w'.heap[g]? = some (.cells ⟨cs'⟩ ty fr)) (hl : cs'.length = cs.length) (hoth : ∀ k, k ≠ g → w'.heap[k]? = w.heap[k]?) (hsz : w'.heap.size = w.heap.size)
    (ho : w'.os = w.os) (ht : w'.tape = w.tape) (hp : w'.output = w.output) (hoff : off ≤ z) (hle : vs.length ≤ z - off) (hv : VRs σ B vs ((cs'.drop (f + off)).take vs.length)) :
    HR σ base (bind1 B H.length ⟨g, f + off, some (z - off)⟩) (H.set i none ++ [some ⟨true, vs⟩]) w' ∧
    Stp B H w (bind1 B H.length ⟨g, f + off, some (z - off)⟩) (H.set i none ++ [some ⟨true, vs⟩]) w' := by
  have hil := hget_lt hi
  have hx := ext_bind1 h ⟨g, f + off, some (z - off)⟩
  obtain ⟨g', f', z', cs0, ty0, fr0, e', hbase, hg0, hl0, hfr0, hle0, _⟩ := h.rw i b hi hb
  rw [e] at e'; injection e' with e'; injection e' with e1 e2 e3
  subst e1; subst e2; injection e3 with e3; subst e3
  rw [hg] at hg0; injection hg0 with hg0; injection hg0 with q1 q2 q3
  injection q1 with q1; subst q1; subst q2; subst q3
  have hgetc : ∀ (k : Nat) (c : Blk), hget (H.set i none ++ [some ⟨true, vs⟩]) k = some c → (k < H.length ∧ k ≠ i ∧ hget H k = some c) ∨ (k = H.length ∧ c = ⟨true, vs⟩) := by
    intro k c hk
    rcases hget_append hk with ⟨hlt, hk⟩ | ⟨e1, e2⟩
    · have hlt' : k < H.length := by simpa using hlt
      by_cases hki : k = i
      · subst hki; rw [yen hil] at hk; simp at hk
      · rw [yeo (Ne.symm hki)] at hk; exact .inl ⟨hlt', hki, hk⟩
    · exact .inr ⟨by simpa using e1, e2⟩
  have hme : bind1 B H.length ⟨g, f + off, some (z - off)⟩ H.length = some ⟨g, f + off, some (z - off)⟩ := bind1_self _ _ _
  have hold : ∀ k, k < H.length → bind1 B H.length ⟨g, f + off, some (z - off)⟩ k = B k := fun k hk => by simp [bind1, Nat.ne_of_lt hk]
  refine ⟨⟨fun j c hj hc => ?_, fun j c hj hc => ?_, fun j k c d p q hj hk hc hd hpj hqk he => ?_, fun j p hj => ?_, by rw [hsz]; exact h.big⟩,
    ⟨hx, ho, ht, hp, Nat.le_of_eq hsz.symm, fun k hk hm => ?_, fun k hm => ?_⟩⟩
  · rcases hgetc j c hj with ⟨hlt, hne, hj⟩ | ⟨rfl, rfl⟩
    · obtain ⟨g1, f1, z1, cs1, ty1, fr1, e1, hb1, hg1, hl1, hfr1, hle1, hv1⟩ := h.rw j c hj hc
      have hne' : g1 ≠ g := fun he => hne (h.inj j i c b _ _ hj hi hc hb e1 e he)
      exact ⟨g1, f1, z1, cs1, ty1, fr1, hx _ _ e1, hb1, by rw [hoth g1 hne']; exact hg1, hl1, hfr1, hle1, hv1.mono hx⟩
    · exact ⟨g, f + off, z - off, cs', ty, fr, hme, hbase, hg', by omega, by rw [hl]; exact hfr0, hle, hv.mono hx⟩
  · rcases hgetc j c hj with ⟨hlt, hne, hj⟩ | ⟨rfl, rfl⟩
    · obtain ⟨g1, o1, e1, hlt, hc1⟩ := h.ro j c hj hc
      refine ⟨g1, o1, hx _ _ e1, hlt, fun m x hxm => ?_⟩
      obtain ⟨x', hx', r⟩ := hc1 m x hxm
      exact ⟨x', by rw [World.cell?_of_block (w := w) (hoth g1 (by omega))]; exact hx', r.mono hx⟩
    · simp at hc
  · rcases hgetc j c hj with ⟨hlt, hne, hj0⟩ | ⟨e1, e2⟩ <;> rcases hgetc k d hk with ⟨hlt2, hne2, hk0⟩ | ⟨e3, e4⟩
    · rw [hold j hlt] at hpj; rw [hold k hlt2] at hqk
      exact h.inj j k c d p q hj0 hk0 hc hd hpj hqk he
    · rw [hold j hlt] at hpj; rw [e3, hme] at hqk
      injection hqk with hqk; subst hqk
      exact absurd (h.inj j i c b p _ hj0 hi hc hb hpj e he) hne
    · rw [hold k hlt2] at hqk; rw [e1, hme] at hpj
      injection hpj with hpj; subst hpj
      exact absurd (h.inj k i d b q _ hk0 hi hd hb hqk e he.symm) hne2
    · rw [e1, e3]
  · simp only [bind1] at hj
    simp only [zai, zan, List.length_singleton]
    split at hj
    · omega
    · have := h.dom j p hj; omega
  · exact hoth k (fun he => hm ⟨i, b, _, hi, hb, e, he.symm⟩)
  · obtain ⟨j, c, p, hj, hc, hpj, rfl⟩ := hm
    rcases hgetc j c hj with ⟨hlt, hne, hj0⟩ | ⟨e1, e2⟩
    · rw [hold j hlt] at hpj
      exact .inl ⟨j, c, p, hj0, hc, hpj, rfl⟩
    · rw [e1, hme] at hpj; injection hpj with hpj; subst hpj
      exact .inl ⟨i, b, _, hi, hb, e, rfl⟩

theorem zeroCells_len (z : Array Value) (n : Nat) : (Builtin.zeroCells z n).toList.length = n * z.size := by simp [Builtin.zeroCells]

/-- append, where there is no room. -/
theorem append_grow_run {t1 t2 ty el : TypeId} {i : TypeInfo} {zv s x : Value} {bs : Option Addr} {n c m : Nat} {olds news : List Value} (ht : P.underlying t1 = some (.slice el))
    (ht2 : P.underlying t2 = some .string ∨ ∃ u, P.underlying t2 = some (.slice u)) (hi : P.info? el = some i) (hz : i.zero = some zv) (hb : i.bytes ≠ 0)
    (hs : s = .slice bs n c) (hx : (Builtin.lenOf x).run P w = .ok m w) (hg : c < n + m) (hlim : (n + m) * i.bytes ≤ 1000000000)
    (ho : ∀ w' : World, w'.heap = w.heap → (Builtin.firstCells i.size n s).run P w' = .ok ⟨olds⟩ w') (hn : ∀ w' : World, w'.heap = w.heap → (Builtin.firstCells i.size m x).run P w' = .ok ⟨news⟩ w') :
    (Builtin.append_ #[t1, t2] ty #[s, x]).run P w = .ok (.slice (some ⟨w.heap.size, 0, none⟩) (n + m) (grownCap w (n + m) c el))
      (w.drew.alloc (.cells (⟨olds⟩ ++ ⟨news⟩ ++ Builtin.zeroCells zv.cells (grownCap w (n + m) c el - (n + m))) el)) := by
  subst hs
  have hti : ∀ w, (typeInfo el).run P w = .ok i w := fun w => by simp [typeInfo, hi]
  have hsz : ∀ w, (sizeOf el).run P w = .ok i.size w := fun w => szT_run (by simp [szT, hi]) w
  have hzv : ∀ w, (zeroValue el).run P w = .ok zv w := fun w => by simp [zeroValue, typeInfo, hi, hz]
  have hfit := growslice_fits hg (show (n + m) * i.bytes ≤ 140737488355328 by omega)
  have h48 : ¬ (Builtin.nextslicecap (n + m) c * i.bytes > 2 ^ 48) := by omega
  have hroom : ¬ (n + m ≤ c) := by omega
  have ho' := ho w.drew rfl
  have hn' := hn w.drew rfl
  rcases ht2 with ht2 | ⟨u, ht2⟩ <;>
  · simp only [Builtin.append_, List.getElem?_toArray, zab, zaa, Sem.run_bind, run_underlying ht, run_underlying ht2, Result.andThen_ok, hsz, Sem.run_pure,
      Bool.false_eq_true, if_false, hx, hroom, hti, hb, or_self, and_false, h48, run_choose, Question.forced, run_askRoom]
    show Result.andThen (Sem.run P _ w.drew) _ = _
    rw [ho', Result.andThen_ok]
    simp only [zao, if_true]
    rw [hn', Result.andThen_ok]
    simp only [hzv, Result.andThen_ok, newRow, Sem.run_bind, run_newObj, Sem.run_pure, grownCap]
    rfl

theorem append_room_run {t1 t2 ty el : TypeId} {i : TypeInfo} {s x : Value} {bs : Option Addr} {n c m : Nat} {news : List Value} {w' : World} (ht : P.underlying t1 = some (.slice el))
    (ht2 : P.underlying t2 = some .string ∨ ∃ u, P.underlying t2 = some (.slice u)) (hi : P.info? el = some i)
    (hs : s = .slice bs n c) (hx : (Builtin.lenOf x).run P w = .ok m w) (hg : n + m ≤ c)
    (hn : (Builtin.firstCells i.size m x).run P w = .ok ⟨news⟩ w) (hst : ∀ ad, bs = some ad → (storeCells (ad.add (n * i.size)) news).run P w = .ok () w') (hnone : bs = none → w' = w) :
    (Builtin.append_ #[t1, t2] ty #[s, x]).run P w = .ok (.slice bs (n + m) c) w' := by
  subst hs
  have hsz : ∀ w, (sizeOf el).run P w = .ok i.size w := fun w => szT_run (by simp [szT, hi]) w
  rcases ht2 with ht2 | ⟨u, ht2⟩ <;>
  · simp only [Builtin.append_, List.getElem?_toArray, zab, zaa, Sem.run_bind, run_underlying ht, run_underlying ht2, Result.andThen_ok, hsz, Sem.run_pure,
      Bool.false_eq_true, if_false, hx, hg, if_true, zao, hn]
    cases bs with
    | none => rw [hnone rfl]; simp only [Sem.run_pure]
    | some ad => simp only [Sem.run_bind, hst ad rfl, Result.andThen_ok, Sem.run_pure]

end
end Go.Proofs.Ytejcabdejoameaa.AI

/- Operations, eighth part: append, copy, structs compared. -/
namespace Go.Proofs.Ytejcabdejoameaa.AI
open Go

section
variable {P : Program} {τ σ : Nat → Nat} {base : Nat} {B : Map} {H : Heap} {w : World} {e : Env} {a : Act} {o : Oper} {v : Value} {H' : Heap}

theorem Stp.of_drawn {B' : Map} {H1 H2 : Heap} {w' : World} (h : Stp B H1 w.drew B' H2 w') : Stp B H1 w B' H2 w' := ⟨h.ext, h.os, h.tape, h.output, h.size, h.keep, h.own⟩

/-- A block behind an append that has grown. -/
theorem grow_ok (hr : HR σ base B H w) {el : TypeId} {all all' rest : List Value} (hv : VRs σ B all all') :
    HR σ base (bind1 B H.length ⟨w.heap.size, 0, some (all' ++ rest).length⟩) (H ++ [some ⟨true, all⟩]) (w.drew.alloc (.cells ⟨all' ++ rest⟩ el)) ∧
    Stp B H w (bind1 B H.length ⟨w.heap.size, 0, some (all' ++ rest).length⟩) (H ++ [some ⟨true, all⟩]) (w.drew.alloc (.cells ⟨all' ++ rest⟩ el)) := by
  refine hr.alloc (cs := all' ++ rest) (ty := el) (fr := (0, 0)) rfl rfl rfl rfl (fun o _ => by omega) (by have := hv.1; simp; omega) ?_
  rw [hv.1, List.take_left]
  exact hv

theorem arr3 (xs ys : List Value) (zs : Array Value) : ((⟨xs⟩ : Array Value) ++ (⟨ys⟩ : Array Value) ++ zs) = ⟨xs ++ ys ++ zs.toList⟩ := by
  apply Array.ext'; simp

theorem splice_all : ∀ (vs l : List Value), l.length = vs.length → splice l 0 vs = vs := by
  intro vs l h
  have key : ∀ (vs l pre : List Value), l.length = vs.length → splice (pre ++ l) pre.length vs = pre ++ vs := by
    intro vs
    induction vs with
    | nil => intro l pre h; have : l = [] := List.eq_nil_of_length_eq_zero (by simpa using h); subst this; rfl
    | cons v vs ih =>
      intro l pre h
      cases l with
      | nil => simp at h
      | cons x l =>
        simp only [splice]
        rw [List.set_append_right _ _ (Nat.le_refl _), Nat.sub_self, zaj]
        have := ih l (pre ++ [v]) (by simpa using h)
        simp only [List.append_assoc, List.singleton_append, zai, List.length_singleton] at this
        exact this
  simpa using key vs l [] h

theorem app_ok {args : Array Operand} {t1 t2 el : TypeId} {i : TypeInfo} {zv : Value} {d' s' : Arg} (hr : HR σ base B H w) (ht : TR σ B e a)
    (hop : o.op = .call { callee := .builtin .append, args, argTypes := #[t1, t2] }) (hu : P.underlying t1 = some (.slice el)) (hu2 : P.underlying t2 = some .string ∨ ∃ u, P.underlying t2 = some (.slice u))
    (hi : P.info? el = some i) (hb : i.bytes ≠ 0) (hz : zeroT P el = some zv) (hzs : zv.cells.size = i.size)
    (hc : cArgs τ σ args.toList = some [d', s']) (h : aop (.app i.size i.bytes d' s') e H = some (v, H')) : OpOK P σ base B H w a o v H' := by
  obtain ⟨x, y, rfl, hx, hy⟩ := args2 hc
  obtain ⟨cs0, hexec⟩ := exec_builtin (a := a) hop
  simp only [aop, Option.bind_eq_some_iff] at h
  obtain ⟨vd, hvd, vs, hvs, m, hm, new, hnew, h⟩ := h
  have hzi : i.zero = some zv := by simpa [zeroT, hi] using hz
  have rd := ev_sound ht hx hvd
  have rs := ev_sound ht hy hvs
  obtain ⟨new', hfirst, rnew, hlen, hnl, _⟩ := firstCells_run (P := P) hr rs hm hnew
  have fin : ∀ {r : Value} {w1 : World}, (Builtin.append_ #[t1, t2] o.type #[a.eval x, a.eval y]).run P w = .ok r w1 → (execOp a.eval o).run P w = .ok (.value r) w1 := by
    intro r w1 hr1
    rw [hexec]
    simp only [List.map_toArray, List.map_cons, List.map_nil, builtin, Sem.run_bind, hr1, Result.andThen_ok, Sem.run_pure]
  split at h
  · have ed := rd.atom_eq rfl
    split at h
    · rename_i hm0
      injection h with h; injection h with e1 e2; subst e1; subst e2
      subst hm0
      refine OpOK.pure hr (fin ?_) (.atom _ rfl)
      exact append_room_run (w := w) (w' := w) (bs := none) (n := 0) (c := 0) hu hu2 hi ed (hlen w) (by omega) (hfirst w rfl) (fun ad he => by simp at he) (fun _ => rfl)
    · rename_i hm0
      split at h
      · rename_i hlim
        injection h with h; injection h with e1 e2; subst e1; subst e2
        have hrun := append_grow_run (P := P) (w := w) (ty := o.type) (olds := []) hu hu2 hi hzi hb ed (hlen w) (show 0 < 0 + m by omega) (by simpa using hlim) (fun w' _ => by rw [ed]; rfl) hfirst
        have hge := grownCap_ge w (0 + m) 0 el
        obtain ⟨g1, g2⟩ := grow_ok (el := el) (rest := (Builtin.zeroCells zv.cells (grownCap w (0 + m) 0 el - (0 + m))).toList) hr rnew
        have hl2 : (new' ++ (Builtin.zeroCells zv.cells (grownCap w (0 + m) 0 el - (0 + m))).toList).length = grownCap w (0 + m) 0 el * i.size := by
          rw [zai, ← rnew.1, hnl, zeroCells_len, hzs, ← Nat.add_mul]; congr 1; omega
        rw [arr3, List.nil_append] at hrun
        refine ⟨_, _, _, .inl (fin hrun), ?_, g1, g2⟩
        · have := VR.slice (σ := σ) H.length 0 (0 + m) i.size (grownCap w (0 + m) 0 el) ⟨w.heap.size, 0, _⟩ (bind1_self B H.length ⟨w.heap.size, 0, some (new' ++ (Builtin.zeroCells zv.cells (grownCap w (0 + m) 0 el - (0 + m))).toList).length⟩) hge (fun s hs => by injection hs with hs; rw [← hs, hl2]; omega)
          simpa using this
      · simp at h
  · rename_i ad n z
    simp only [Option.bind_eq_some_iff] at h
    obtain ⟨b, hbk, h⟩ := h
    split at h
    · rename_i hcond
      simp only [Bool.and_eq_true, decide_eq_true_eq] at hcond
      obtain ⟨⟨hrw, hz1, hend, hlim⟩, hone⟩ := hcond
      subst hz1
      injection h with h; injection h with e1 e2; subst e1; subst e2
      obtain ⟨g, f, zz, cs, ty, fr, e1, hbase, hg, hl, hfr, hle, hvr⟩ := hr.rw _ b hbk hrw
      obtain ⟨p, c, hp, hspot, hcase⟩ := rd.of_slice
      rw [e1] at hp; injection hp with hp; subst hp
      rcases hcase with ⟨ed, hnc, hsz⟩ | ⟨_, hs0, _⟩
      · have hsz := hsz zz rfl
        by_cases hroom : n + m ≤ c
        · -- there is room
          have hfit : f + (ad.off + n * i.size) + 0 + new'.length ≤ cs.length := by
            have : (n + m) * i.size ≤ c * i.size := Nat.mul_le_mul_right _ hroom
            rw [Nat.add_mul] at this
            rw [← rnew.1, hnl]; omega
          obtain ⟨w', hrun, hg', hoth, hsz', ho, hti, hpo⟩ := run_storeCells_all (P := P) g (f + (ad.off + n * i.size)) ty fr new' 0 cs w hg hfr hfit (fun x hx => by
            obtain ⟨j, hj⟩ := List.mem_iff_getElem?.1 hx
            have hjl : j < new.length := by have := (List.getElem?_eq_some_iff.1 hj).1; have := rnew.1; omega
            exact (rnew.2 j _ x (List.getElem?_eq_getElem hjl) hj).one (List.all_eq_true.1 hone _ (List.getElem_mem hjl)))
          rw [zba] at hg'
          have hrun2 := append_room_run (P := P) (ty := o.type) (w := w) (w' := w') (bs := some ⟨g, f + ad.off, none⟩) hu hu2 hi ed (hlen w) hroom (hfirst w rfl) (fun ad2 he => by
            injection he with he; subst he
            rw [Addr_add, Nat.add_assoc]; exact hrun) (fun he => by simp at he)
          have hoff : ad.off ≤ b.cells.length := by omega
          have hreg := hr.regrow hbk hrw (vs := b.cells.drop ad.off ++ new) (off := ad.off) e1 hg hg' (splice_length _ _ _) hoth hsz' ho hti hpo (by omega)
            (by
              have : (n + m) * i.size ≤ c * i.size := Nat.mul_le_mul_right _ hroom
              rw [Nat.add_mul] at this
              simp [hnl]; omega)
            (by
              have : (n + m) * i.size ≤ c * i.size := Nat.mul_le_mul_right _ hroom
              rw [Nat.add_mul] at this
              have hnl' : new'.length = m * i.size := by rw [← rnew.1, hnl]
              have hlen2 : (b.cells.drop ad.off ++ new).length = n * i.size + new'.length := by simp [hnl, hnl']; omega
              rw [hlen2, ← Nat.add_assoc, splice_mid (by omega) (by omega)]
              have hX : ((cs.drop (f + ad.off)).take (n * i.size + new'.length)) = (cs.drop (f + ad.off)).take (n * i.size) ++ ((cs.drop (f + ad.off)).drop (n * i.size)).take new'.length := by rw [List.take_add]
              have hXl : ((cs.drop (f + ad.off)).take (n * i.size)).length = n * i.size := by simp; omega
              rw [hX]
              have hsp := splice_append_right new' ((cs.drop (f + ad.off)).take (n * i.size)) (((cs.drop (f + ad.off)).drop (n * i.size)).take new'.length) 0
              rw [hXl, zba] at hsp
              rw [hsp, splice_all _ _ (by simp; omega)]
              refine VRs.append ?_ rnew
              have h1 := hvr.drop ad.off
              rw [List.drop_take, List.drop_drop, show b.cells.length - ad.off = n * i.size by omega] at h1
              exact h1)
          obtain ⟨g1, g2⟩ := hreg
          refine ⟨_, _, _, .inl (fin hrun2), ?_, g1, g2⟩
          have := VR.slice (σ := σ) H.length 0 (n + m) i.size c ⟨g, f + ad.off, _⟩ (bind1_self B H.length ⟨g, f + ad.off, some (zz - ad.off)⟩) hroom (fun s hs => by injection hs with hs; omega)
          simpa using this
        · -- a new block
          obtain ⟨olds, hvo, hlo, hco⟩ := hr.cells hbk e1 ad.off (n * i.size) (by omega)
          have holds : ∀ w' : World, w'.heap = w.heap → (Builtin.firstCells i.size n (a.eval x)).run P w' = .ok ⟨olds⟩ w' := by
            intro w' hw'
            have hcell : ∀ q : Addr, w'.cell? q = w.cell? q := fun q => by simp [World.cell?, hw']
            rw [ed]
            exact run_firstCells_some w' i.size n _ n c olds hlo (fun j v hv => by rw [Addr_add, hcell]; exact hco j v hv)
          have hrun := append_grow_run (P := P) (w := w) (ty := o.type) hu hu2 hi hzi hb ed (hlen w) (by omega) hlim holds hfirst
          have hge := grownCap_ge w (n + m) c el
          obtain ⟨k1, k2⟩ := hr.kill ad.block
          have hdr : (b.cells.drop ad.off).take (n * i.size) = b.cells.drop ad.off := List.take_of_length_le (by simp; omega)
          rw [hdr] at hvo
          obtain ⟨g1, g2⟩ := grow_ok (el := el) (rest := (Builtin.zeroCells zv.cells (grownCap w (n + m) c el - (n + m))).toList) k1 (hvo.append rnew)
          have hl2 : (olds ++ new' ++ (Builtin.zeroCells zv.cells (grownCap w (n + m) c el - (n + m))).toList).length = grownCap w (n + m) c el * i.size := by
            rw [zai, zai, hlo, ← rnew.1, hnl, zeroCells_len, hzs, ← Nat.add_mul, ← Nat.add_mul]; congr 1; omega
          rw [zan] at g1 g2
          rw [arr3] at hrun
          refine ⟨_, _, _, .inl (fin hrun), ?_, g1, k2.trans g2⟩
          have := VR.slice (σ := σ) H.length 0 (n + m) i.size (grownCap w (n + m) c el) ⟨w.heap.size, 0, _⟩ (bind1_self B H.length ⟨w.heap.size, 0, some (olds ++ new' ++ (Builtin.zeroCells zv.cells (grownCap w (n + m) c el - (n + m))).toList).length⟩) hge (fun s hs => by injection hs with hs; rw [← hs, hl2]; omega)
          simpa using this
      · simp at hs0
    · simp at h
  · simp at h

end
end Go.Proofs.Ytejcabdejoameaa.AI

/- Operations, ninth part: copy, structs compared; all of them together. -/
namespace Go.Proofs.Ytejcabdejoameaa.AI
open Go

section
variable {P : Program} {τ σ : Nat → Nat} {base : Nat} {B : Map} {H : Heap} {w : World} {e : Env} {a : Act} {o : Oper} {v : Value} {H' : Heap}

theorem copy_ok {args : Array Operand} {tys : Array TypeId} {t1 el : TypeId} {sz : Nat} {d' s' : Arg} (hr : HR σ base B H w) (ht : TR σ B e a)
    (hop : o.op = .call { callee := .builtin .copy, args, argTypes := tys }) (hty : tys[0]? = some t1) (hu : P.underlying t1 = some (.slice el)) (hs : szT P el = some sz)
    (hc : cArgs τ σ args.toList = some [d', s']) (h : aop (.copy sz d' s') e H = some (v, H')) : OpOK P σ base B H w a o v H' := by
  obtain ⟨x, y, rfl, hx, hy⟩ := args2 hc
  obtain ⟨cs0, hexec⟩ := exec_builtin (a := a) hop
  simp only [aop, Option.bind_eq_some_iff] at h
  obtain ⟨vd, hvd, vs, hvs, h⟩ := h
  split at h
  · rename_i ad n z
    simp only [Option.bind_eq_some_iff, Option.map_eq_some_iff] at h
    obtain ⟨m, hm, cs, hcs, H1, hst, he⟩ := h
    injection he with e1 e2; subst e1; subst e2
    have rd := ev_sound ht hx hvd
    have rs := ev_sound ht hy hvs
    obtain ⟨p, c, hp, hspot, hcase⟩ := rd.of_slice
    obtain ⟨ab, ao, asp⟩ := ad
    simp only at hspot; subst hspot
    obtain ⟨new', hfirst, rnew, hlen, hnl, hfirst2⟩ := firstCells_run (P := P) hr rs hm hcs
    have hstore := hst
    simp only [AI.hstore, Option.bind_eq_some_iff] at hstore
    obtain ⟨b, hb, hif⟩ := hstore
    have hrw : b.rw = true := by
      split at hif
      · rename_i hc2; simp only [Bool.and_eq_true] at hc2; exact hc2.1.1
      · simp at hif
    obtain ⟨g, f, zz, cs1, ty, fr, e1, _⟩ := hr.rw _ b hb hrw
    rw [e1] at hp; injection hp with hp; subst hp
    rcases hcase with ⟨ed, hnc, hsz⟩ | ⟨_, hs0, _⟩
    · -- the first cells of what is copied
      obtain ⟨w', hrun, hr', hstp⟩ := store_run (P := P) hr e1 (rnew.take (min m n * sz)) hst
      refine ⟨.int .i64 (min m n : Nat), w', B, .inl ?_, .atom _ rfl, hr', hstp⟩
      rw [hexec]
      have h1 : (Builtin.copy_ tys o.type #[a.eval x, a.eval y]).run P w = .ok (.int .i64 (min m n : Nat)) w' := by
        simp only [Builtin.copy_, hty, List.getElem?_toArray, zab, zaa, Sem.run_bind, run_underlying hu, Result.andThen_ok, ed, hlen w, szT_run hs]
        have := hfirst2 (min m n) (Nat.min_le_left _ _)
        rw [show Nat.min m n = min m n from rfl, this]
        simp only [Result.andThen_ok, hrun, Sem.run_pure, goInt]
      simp only [List.map_toArray, List.map_cons, List.map_nil, builtin, Sem.run_bind, h1, Result.andThen_ok, Sem.run_pure]
    · simp at hs0
  · simp at h

/-! Structs compared. -/

theorem eqL_append : ∀ (a b : List Ty) (x1 x2 y1 y2 : List Value), x1.length = a.length → y1.length = a.length →
    eqL (a ++ b) (x1 ++ x2) (y1 ++ y2) = (eqL a x1 y1).bind fun r => if r then eqL b x2 y2 else some false := by
  intro a
  induction a with
  | nil =>
    intro b x1 x2 y1 y2 h1 h2
    have : x1 = [] := List.eq_nil_of_length_eq_zero h1
    subst this
    have : y1 = [] := List.eq_nil_of_length_eq_zero h2
    subst this
    simp [eqL]
  | cons t a ih =>
    intro b x1 x2 y1 y2 h1 h2
    cases x1 with
    | nil => simp at h1
    | cons x x1 =>
      cases y1 with
      | nil => simp at h2
      | cons y y1 =>
        simp only [List.cons_append, eqL]
        cases eq1 t x y with
        | none => rfl
        | some r => cases r <;> simp [ih b x1 x2 y1 y2 (by simpa using h1) (by simpa using h2)]

theorem eqL_sound : ∀ {tys : List Ty} {xs ys xs' ys' : List Value} {r : Bool}, VRs σ B xs xs' → VRs σ B ys ys' → eqL tys xs ys = some r → eqL tys xs' ys' = some r := by
  intro tys
  induction tys with
  | nil => intro xs ys xs' ys' r _ _ h; simpa [eqL] using h
  | cons t tys ih =>
    intro xs ys xs' ys' r hx hy h
    cases xs with
    | nil => simp [eqL] at h
    | cons x xs =>
      cases ys with
      | nil => simp [eqL] at h
      | cons y ys =>
        obtain ⟨x', xs'', rfl, rx, hx⟩ := hx.of_cons
        obtain ⟨y', ys'', rfl, ry, hy⟩ := hy.of_cons
        simp only [eqL, Option.bind_eq_some_iff] at h ⊢
        obtain ⟨q, hq, h⟩ := h
        have hat : AI.atom x = true ∧ AI.atom y = true := by
          cases t <;> cases x <;> cases y <;> simp [eq1] at hq <;> exact ⟨rfl, rfl⟩
        rw [rx.atom_eq hat.1, ry.atom_eq hat.2]
        refine ⟨q, hq, ?_⟩
        cases q with
        | true => simp only [if_true] at h ⊢; exact ih hx hy h
        | false => simpa using h

theorem tysOf_run : ∀ (d : Nat) (t : TypeId) (tys : List Ty), tysOf P d t = some tys → ∀ (D : Nat), d ≤ D → ∀ (x y : Value) (cs ds : List Value) (r : Bool),
    ((isAggT P t = some true ∧ x = .agg ⟨cs⟩ ∧ y = .agg ⟨ds⟩) ∨ (isAggT P t = some false ∧ cs = [x] ∧ ds = [y])) → cs.length = tys.length → ds.length = tys.length → eqL tys cs ds = some r →
    ∀ w, (Op.equalIn D t x y).run P w = .ok r w := by
  intro d
  induction d with
  | zero => intro t tys h; simp [tysOf] at h
  | succ d ih =>
    intro t tys h D hD x y cs ds r hsh hl1 hl2 he w
    obtain ⟨D, rfl⟩ : ∃ k, D = k + 1 := ⟨D - 1, by omega⟩
    have scal : ∀ ty, tys = [ty] → isAggT P t = some false → ∃ q, eq1 ty x y = some q ∧ r = q := by
      intro ty e1 hna
      rcases hsh with ⟨ha, _⟩ | ⟨_, rfl, rfl⟩
      · rw [hna] at ha; simp at ha
      · subst e1
        simp only [eqL, Option.bind_eq_some_iff] at he
        obtain ⟨q, hq, he⟩ := he
        cases q <;> simp at he <;> exact ⟨_, hq, he⟩
    simp only [tysOf] at h
    split at h
    · rename_i hu
      injection h with h
      obtain ⟨q, hq, rfl⟩ := scal .bool h.symm (by simp [isAggT, hu])
      cases x <;> cases y <;> simp only [eq1, reduceCtorEq, Option.some.injEq] at hq
      subst hq
      rw [Op.equalIn]; simp only [Sem.run_bind, run_underlying hu, Result.andThen_ok]; rfl
    · rename_i k0 hu
      injection h with h
      obtain ⟨q, hq, rfl⟩ := scal .int h.symm (by simp [isAggT, hu])
      cases x <;> cases y <;> simp only [eq1, reduceCtorEq] at hq
      split at hq
      · rename_i hk
        injection hq with hq; subst hq; subst hk
        rw [Op.equalIn]; simp only [Sem.run_bind, run_underlying hu, Result.andThen_ok, if_true]; rfl
      · simp at hq
    · rename_i hu
      injection h with h
      obtain ⟨q, hq, rfl⟩ := scal .str h.symm (by simp [isAggT, hu])
      cases x <;> cases y <;> simp only [eq1, reduceCtorEq, Option.some.injEq] at hq
      subst hq
      rw [Op.equalIn]; simp only [Sem.run_bind, run_underlying hu, Result.andThen_ok]; rfl
    · rename_i fs hu
      split at h
      · rename_i hst
        have hfo : P.fieldsOf t = fs := by simp [Program.fieldsOf, hu]
        rcases hsh with ⟨_, rfl, rfl⟩ | ⟨hna, _⟩
        · rw [run_equalIn_struct w D t ⟨cs⟩ ⟨ds⟩ (by rw [hfo]; exact hu) hst, hfo]
          -- field by field
          have key : ∀ (l : List Field) (n : Nat) (tys : List Ty), tysF P (tysOf P d) n l = some tys → ∀ (p1 p2 c1 c2 : List Value) (r : Bool), p1.length = n → p2.length = n → c1.length = tys.length → c2.length = tys.length →
              eqL tys c1 c2 = some r → ∀ w, (Op.eqFields D ⟨p1 ++ c1⟩ ⟨p2 ++ c2⟩ l).run P w = .ok r w := by
            intro l
            induction l with
            | nil =>
              intro n tys h p1 p2 c1 c2 r _ _ _ _ he w
              simp only [tysF, Option.some.injEq] at h; subst h
              simp only [eqL, Option.some.injEq] at he; subst he
              simp only [Op.eqFields, Sem.run_pure]
            | cons fd l ihl =>
              intro n tys h p1 p2 c1 c2 r hp1 hp2 hc1 hc2 he w
              simp only [tysF] at h
              split at h
              · simp at h
              · rename_i hnm
                simp only [not_or, Decidable.not_not] at hnm
                simp only [Option.bind_eq_some_iff] at h
                obtain ⟨ta, hta, sh, hsh, h⟩ := h
                split at h
                · rename_i hta2
                  simp only [Option.map_eq_some_iff] at h
                  obtain ⟨tb, htb, rfl⟩ := h
                  have hl1 : (c1.take ta.length).length = ta.length := by simp at hc1 ⊢; omega
                  have hl2 : (c2.take ta.length).length = ta.length := by simp at hc2 ⊢; omega
                  rw [← List.take_append_drop ta.length c1, ← List.take_append_drop ta.length c2, eqL_append _ _ _ _ _ _ hl1 hl2] at he
                  simp only [Option.bind_eq_some_iff] at he
                  obtain ⟨q, hq, he⟩ := he
                  -- the two parts
                  have hpart : ∀ (p c : List Value), p.length = n → ta.length ≤ c.length → ∃ u, (∀ w, (part fd.type ⟨p ++ c⟩ fd.offset).run P w = .ok u w) ∧ ((isAggT P fd.type = some true ∧ u = .agg ⟨c.take ta.length⟩) ∨ (isAggT P fd.type = some false ∧ c.take ta.length = [u])) := by
                    intro p c hp hc
                    unfold shT at hsh
                    split at hsh
                    · rename_i hag
                      simp only [Option.map_eq_some_iff] at hsh
                      obtain ⟨m, hm, rfl⟩ := hsh
                      simp only [Option.getD_some] at hta2
                      refine ⟨.agg ⟨c.take ta.length⟩, fun w => ?_, .inl ⟨hag, rfl⟩⟩
                      simp only [part, Sem.run_bind, isAgg_run hag, Result.andThen_ok, if_true, szT_run hm, Sem.run_pure]
                      congr 2
                      rw [hnm.2, ← hta2, ← hp]
                      apply Array.ext'
                      simp
                    · rename_i hag
                      injection hsh with hsh; subst hsh
                      simp only [Option.getD_none] at hta2
                      have hne : 0 < c.length := by omega
                      refine ⟨c[0], fun w => ?_, .inr ⟨hag, ?_⟩⟩
                      · have : (⟨p ++ c⟩ : Array Value)[fd.offset]? = some c[0] := by
                          rw [hnm.2, ← hp]; simp [hne]
                        simp only [part, Sem.run_bind, isAgg_run hag, Result.andThen_ok, Bool.false_eq_true, if_false, this, Sem.run_pure]
                      · rw [hta2]
                        cases c with
                        | nil => simp at hne
                        | cons u c => simp
                    · simp at hsh
                  obtain ⟨u1, hu1, s1⟩ := hpart p1 c1 hp1 (by simp at hc1; omega)
                  obtain ⟨u2, hu2, s2⟩ := hpart p2 c2 hp2 (by simp at hc2; omega)
                  have hrun := ih fd.type ta hta D (by omega) u1 u2 (c1.take ta.length) (c2.take ta.length) q (by
                    rcases s1 with ⟨g1, rfl⟩ | ⟨g1, h1⟩ <;> rcases s2 with ⟨g2, rfl⟩ | ⟨g2, h2⟩
                    · exact .inl ⟨g1, rfl, rfl⟩
                    · rw [g1] at g2; simp at g2
                    · rw [g1] at g2; simp at g2
                    · exact .inr ⟨g1, h1, h2⟩) hl1 hl2 hq
                  simp only [Op.eqFields, ne_eq, hnm.1, not_false_iff, if_true, Sem.run_bind, hu1, hu2, Result.andThen_ok, hrun]
                  cases q with
                  | false =>
                    simp at he; subst he
                    simp only [zao, if_true, Sem.run_pure]
                  | true =>
                    simp only [if_true] at he
                    simp only [zap, Bool.false_eq_true, if_false]
                    have := ihl (n + ta.length) tb htb (p1 ++ c1.take ta.length) (p2 ++ c2.take ta.length) (c1.drop ta.length) (c2.drop ta.length) r (by simp at hl1 ⊢; omega) (by simp at hl2 ⊢; omega) (by simp at hc1 ⊢; omega) (by simp at hc2 ⊢; omega) he w
                    simpa only [List.append_assoc, List.take_append_drop] using this
                · simp at h
          have := key fs.toList 0 tys h [] [] cs ds r rfl rfl hl1 hl2 he w
          simpa using this
        · simp [isAggT, hu] at hna
      · simp at h
    · simp at h

theorem eqs_ok {op : BinOp} {neg : Bool} {t s : TypeId} {fs : Array Field} {tys : List Ty} {x y : Operand} {x' y' : Arg} (hr : HR σ base B H w) (ht : TR σ B e a) (hop : o.op = .binOp op t x y s)
    (hu : P.underlying t = some (.struct fs)) (hg : P.eqGuardType P.depth t = false) (hty : tysOf P 9 t = some tys)
    (hx : cArg τ σ x = some x') (hy : cArg τ σ y = some y') (ho : (op = .eql ∧ neg = false) ∨ (op = .neq ∧ neg = true)) (h : aop (.eqs neg tys x' y') e H = some (v, H')) : OpOK P σ base B H w a o v H' := by
  simp only [aop] at h
  split at h
  · rename_i xs ys hvx hvy
    split at h
    · rename_i hlen
      simp only [Option.map_eq_some_iff] at h
      obtain ⟨r, hr0, he⟩ := h
      injection he with e1 e2; subst e1; subst e2
      obtain ⟨xs', ex, rx⟩ := (ev_sound ht hx hvx).of_agg
      obtain ⟨ys', ey, ry⟩ := (ev_sound ht hy hvy).of_agg
      have hag : isAggT P t = some true := by simp [isAggT, hu]
      have hrun := tysOf_run (P := P) 9 t tys hty 10000 (by omega) (.agg xs') (.agg ys') xs'.toList ys'.toList r (.inl ⟨hag, rfl, rfl⟩)
        (by have := rx.1; simp at this ⊢; omega) (by have := ry.1; simp at this ⊢; omega) (eqL_sound rx ry hr0) w
      have heq : (Op.equal t (.agg xs') (.agg ys')).run P w = .ok r w := hrun
      refine OpOK.pure hr ?_ (.atom _ rfl)
      have hgd : (eqGuard op t x y (.agg xs') (.agg ys')).run P w = .ok () w := by
        rcases ho with ⟨rfl, rfl⟩ | ⟨rfl, rfl⟩ <;> simp [eqGuard, hg]
      rcases ho with ⟨rfl, rfl⟩ | ⟨rfl, rfl⟩
      · simp only [execOp, hop, ex, ey, Sem.run_bind, hgd, Result.andThen_ok, binOp, heq, Sem.run_pure]
        simp
      · simp only [execOp, hop, ex, ey, Sem.run_bind, hgd, Result.andThen_ok, binOp, heq, Sem.run_pure]
        simp
    · simp at h
  · simp at h

end
end Go.Proofs.Ytejcabdejoameaa.AI

/- All operations together. -/
namespace Go.Proofs.Ytejcabdejoameaa.AI
open Go

section
variable {P : Program} {τ σ : Nat → Nat} {base : Nat} {B : Map} {H : Heap} {w : World} {e : Env} {a : Act} {v : Value} {H' : Heap}

theorem cOp_sound (hr : HR σ base B H w) (ht : TR σ B e a) {o : Oper} {ao : AOp} (hc : cOp P τ σ o.op = some ao) (h : aop ao e H = some (v, H')) : OpOK P σ base B H w a o v H' := by
  generalize hop : o.op = op at hc
  cases op
  case move x =>
    simp only [cOp, Option.map_eq_some_iff] at hc
    obtain ⟨x', hx, rfl⟩ := hc
    exact mov_ok hr ht (.inl hop) hx h
  case assign x =>
    simp only [cOp, Option.map_eq_some_iff] at hc
    obtain ⟨x', hx, rfl⟩ := hc
    exact mov_ok hr ht (.inr hop) hx h
  case pick c x y =>
    simp only [cOp, Option.bind_eq_some_iff] at hc
    obtain ⟨c', hc', x', hx, y', hy, hc⟩ := hc
    injection hc with hc; subst hc
    exact pick_ok hr ht hop hc' hx hy h
  case binOp op t x y u =>
    simp only [cOp, Option.bind_eq_some_iff] at hc
    obtain ⟨x', hx, y', hy, hc⟩ := hc
    split at hc
    · rename_i hu
      injection hc with hc; subst hc
      exact bin_ok hr ht hop hx hy rfl h
    · rename_i hu
      injection hc with hc; subst hc
      exact bin_ok hr ht hop hx hy rfl h
    · rename_i hu
      injection hc with hc; subst hc
      exact eqb_ok hr ht hop hu hx hy (.inl ⟨rfl, rfl⟩) h
    · rename_i hu
      injection hc with hc; subst hc
      exact eqb_ok hr ht hop hu hx hy (.inr ⟨rfl, rfl⟩) h
    · rename_i hu
      injection hc with hc; subst hc
      exact eqp_ok hr ht hop hu hx hy (.inl ⟨rfl, rfl⟩) h
    · rename_i hu
      injection hc with hc; subst hc
      exact eqp_ok hr ht hop hu hx hy (.inr ⟨rfl, rfl⟩) h
    · rename_i hu
      split at hc
      · rename_i hg
        simp only [Option.map_eq_some_iff] at hc
        obtain ⟨tys, hty, rfl⟩ := hc
        exact eqs_ok hr ht hop hu hg hty hx hy (.inl ⟨rfl, rfl⟩) h
      · simp at hc
    · rename_i hu
      split at hc
      · rename_i hg
        simp only [Option.map_eq_some_iff] at hc
        obtain ⟨tys, hty, rfl⟩ := hc
        exact eqs_ok hr ht hop hu hg hty hx hy (.inr ⟨rfl, rfl⟩) h
      · simp at hc
    · simp at hc
  case unOp op t x =>
    simp only [cOp, Option.map_eq_some_iff] at hc
    obtain ⟨x', hx, rfl⟩ := hc
    exact un_ok hr ht hop hx h
  case convert s d x =>
    simp only [cOp, Option.bind_eq_some_iff] at hc
    obtain ⟨x', hx, hc⟩ := hc
    split at hc
    · rename_i h1 h2; injection hc with hc; subst hc; exact cvI_ok hr ht hop h1 h2 hx h
    · rename_i h1 h2; injection hc with hc; subst hc; exact cvIS_ok hr ht hop h1 h2 hx h
    · rename_i h1 h2; injection hc with hc; subst hc; exact cvSS_ok hr ht hop h1 h2 hx h
    · rename_i h1 h2
      split at hc
      · rename_i h3; injection hc with hc; subst hc; exact cvSB_ok hr ht hop h1 h2 h3 hx h
      · simp at hc
    · rename_i h1 h2
      split at hc
      · rename_i h3; injection hc with hc; subst hc; exact cvBS_ok hr ht hop h1 h3 h2 hx h
      · simp at hc
    · simp at hc
  case load t x =>
    simp only [cOp, Option.bind_eq_some_iff] at hc
    obtain ⟨x', hx, n, hn, hc⟩ := hc
    split at hc
    · simp at hc
    · injection hc with hc; subst hc; exact load_ok hr ht hop hx hn h
  case store t x y =>
    simp only [cOp, Option.bind_eq_some_iff] at hc
    obtain ⟨x', hx, y', hy, n, hn, hc⟩ := hc
    split at hc
    · simp at hc
    · injection hc with hc; subst hc; exact store_ok hr ht hop hx hy hn h
  case nilCheck x =>
    simp only [cOp, Option.map_eq_some_iff] at hc
    obtain ⟨x', hx, rfl⟩ := hc
    exact nilck_ok hr ht hop hx h
  case fieldAddr s x f =>
    simp only [cOp] at hc
    split at hc
    · rename_i fs hu
      simp only [Option.bind_eq_some_iff] at hc
      obtain ⟨fd, hf, n, hn, hc⟩ := hc
      split at hc
      · simp at hc
      · rename_i h0
        simp only [Option.map_eq_some_iff] at hc
        obtain ⟨x', hx, rfl⟩ := hc
        exact faddr_ok hr ht hop hu hf hn h0 hx h
    · simp at hc
  case indexAddr t x i =>
    simp only [cOp, Option.bind_eq_some_iff] at hc
    obtain ⟨x', hx, i', hi, hc⟩ := hc
    split at hc
    · rename_i hu
      simp only [Option.bind_eq_some_iff] at hc
      obtain ⟨sz, hsz, hc⟩ := hc
      split at hc
      · simp at hc
      · injection hc with hc; subst hc; exact iaddrA_ok hr ht hop hu hsz hx hi h
    · rename_i hu
      simp only [Option.bind_eq_some_iff] at hc
      obtain ⟨sz, hsz, hc⟩ := hc
      split at hc
      · simp at hc
      · injection hc with hc; subst hc; exact iaddrS_ok hr ht hop hu hsz hx hi h
    · simp at hc
  case index t x i =>
    simp only [cOp, Option.bind_eq_some_iff] at hc
    obtain ⟨x', hx, i', hi, hc⟩ := hc
    split at hc
    · rename_i hu
      simp only [Option.bind_eq_some_iff] at hc
      obtain ⟨sh, hsh, sz, hsz, hc⟩ := hc
      split at hc
      · simp at hc
      · rename_i hne
        simp only [not_or, ne_eq, Decidable.not_not] at hne
        injection hc with hc; subst hc; exact idxA_ok hr ht hop hu hsz hsh hne.2 hx hi h
    · rename_i hu
      injection hc with hc; subst hc; exact idxS_ok hr ht hop hu hx hi h
    · simp at hc
  case field t x f =>
    simp only [cOp] at hc
    split at hc
    · rename_i fs hu
      simp only [Option.bind_eq_some_iff, Option.map_eq_some_iff] at hc
      obtain ⟨fd, hf, sh, hsh, x', hx, rfl⟩ := hc
      exact fld_ok hr ht hop hu hf hsh hx h
    · simp at hc
  case extract x i =>
    simp only [cOp, Option.map_eq_some_iff] at hc
    obtain ⟨x', hx, rfl⟩ := hc
    exact ext_ok hr ht hop hx h
  case alloc t =>
    simp only [cOp, Option.bind_eq_some_iff] at hc
    obtain ⟨z, hz, hc⟩ := hc
    split at hc
    · rename_i hk; injection hc with hc; subst hc; exact alloc_ok hr hop hz hk h
    · simp at hc
  case box t x =>
    simp only [cOp, Option.map_eq_some_iff] at hc
    obtain ⟨x', hx, rfl⟩ := hc
    exact box_ok hr ht hop hx h
  case build t parts =>
    simp only [cOp, Option.bind_eq_some_iff] at hc
    obtain ⟨z, hz, hc⟩ := hc
    split at hc
    · rename_i hk
      split at hc
      · rename_i hu
        simp only [Option.bind_eq_some_iff, Option.map_eq_some_iff] at hc
        obtain ⟨pl, hpl, ps, hps, rfl⟩ := hc
        exact build_okS hr ht hop hz hk hu hpl hps h
      · rename_i hu
        simp only [Option.bind_eq_some_iff, Option.map_eq_some_iff] at hc
        obtain ⟨sz, hsz, ps, hps, rfl⟩ := hc
        exact build_okA hr ht hop hz hk hu hsz hps h
      · simp at hc
    · simp at hc
  case buildSlice t len parts =>
    simp only [cOp] at hc
    split at hc
    · rename_i hu
      simp only [Option.bind_eq_some_iff] at hc
      obtain ⟨sz, hsz, z, hz, hc⟩ := hc
      split at hc
      · rename_i hk
        simp only [Option.map_eq_some_iff] at hc
        obtain ⟨ps, hps, rfl⟩ := hc
        exact buildS_ok hr ht hop hz hk.1 hu hsz hk.2.1 hk.2.2.1 hk.2.2.2 hps h
      · simp at hc
    · simp at hc
  case makeSlice t l c =>
    simp only [cOp] at hc
    split at hc
    · rename_i hu
      simp only [Option.bind_eq_some_iff] at hc
      obtain ⟨i, hi, z, hz, hc⟩ := hc
      split at hc
      · rename_i hk
        simp only [Option.bind_eq_some_iff] at hc
        obtain ⟨l', hl, c', hc', hc⟩ := hc
        injection hc with hc; subst hc
        exact mkS_ok hr ht hop hu hi hz hk.1 hk.2.1 hk.2.2 hl hc' h
      · simp at hc
    · simp at hc
  case slice t x lo hi mx =>
    simp only [cOp, Option.bind_eq_some_iff] at hc
    obtain ⟨x', hx, lo', hl, hi', hh, mx', hm, hc⟩ := hc
    have hmn : mx'.isNone = true → mx = none := by
      intro hn
      cases mx with
      | none => rfl
      | some m =>
        simp only [cOpt, Option.map_eq_some_iff] at hm
        obtain ⟨q, _, rfl⟩ := hm
        simp at hn
    split at hc
    · rename_i hu
      split at hc
      · rename_i hn; injection hc with hc; subst hc; exact slS_ok hr ht hop (hmn hn) hu hx hl hh h
      · simp at hc
    · rename_i hu
      simp only [Option.bind_eq_some_iff] at hc
      obtain ⟨sz, hsz, hc⟩ := hc
      split at hc
      · simp at hc
      · injection hc with hc; subst hc; exact slL_ok hr ht hop hu hsz hx hl hh hm h
    · rename_i hu
      simp only [Option.bind_eq_some_iff] at hc
      obtain ⟨sz, hsz, hc⟩ := hc
      split at hc
      · rename_i hn; injection hc with hc; subst hc; exact slA_ok hr ht hop (hmn hn.1) hu hsz hx hl hh h
      · simp at hc
    · simp at hc
  case makeFunc fn fst cap =>
    cases fn <;> simp only [cOp, reduceCtorEq] at hc
    rename_i f
    simp only [Option.bind_eq_some_iff] at hc
    obtain ⟨a', ha, b', hb, hc⟩ := hc
    split at hc
    · rename_i hf; injection hc with hc; subst hc; exact mkF_ok hr ht hop hf ha hb h
    · simp at hc
  case call c =>
    obtain ⟨callee, args, argTypes⟩ := c
    cases callee with
    | value f => simp [cOp] at hc
    | invoke r m => simp [cOp] at hc
    | builtin b =>
      simp only [cOp, Option.bind_eq_some_iff] at hc
      obtain ⟨as, has, hc⟩ := hc
      have one : ∀ {d}, argTypes.toList.map P.underlying = [d] → ∃ t, argTypes = #[t] ∧ P.underlying t = d := by
        intro d hd
        obtain ⟨l⟩ := argTypes
        cases l with
        | nil => simp at hd
        | cons t l =>
          simp at hd
          obtain ⟨h1, h2⟩ := hd
          subst h2; exact ⟨t, rfl, h1⟩
      have two : ∀ {d d2}, argTypes.toList.map P.underlying = [d, d2] → ∃ t t2, argTypes = #[t, t2] ∧ P.underlying t = d ∧ P.underlying t2 = d2 := by
        intro d d2 hd
        obtain ⟨l⟩ := argTypes
        match l, hd with
        | [], hd => simp at hd
        | [t], hd => simp at hd
        | t :: t2 :: l, hd =>
          simp at hd
          obtain ⟨h1, h2, h3⟩ := hd
          subst h3; exact ⟨t, t2, rfl, h1, h2⟩
      split at hc
      · rename_i hd
        obtain ⟨t, rfl, hu⟩ := one hd
        injection hc with hc; subst hc; exact lenS_ok hr ht hop hu has h
      · rename_i hd
        obtain ⟨t, rfl, hu⟩ := one hd
        injection hc with hc; subst hc; exact lenL_ok hr ht hop hu has h
      · injection hc with hc; subst hc; exact mm_ok (mx := false) hr ht hop has h
      · injection hc with hc; subst hc; exact mm_ok (mx := true) hr ht hop has h
      · rename_i hd
        obtain ⟨t, t2, rfl, hu, hu2⟩ := two hd
        simp only [Option.bind_eq_some_iff] at hc
        obtain ⟨i, hi, sz', hsz', hc⟩ := hc
        split at hc
        · simp at hc
        · rename_i hne
          simp only [not_or] at hne
          simp only [Option.bind_eq_some_iff] at hc
          obtain ⟨z, hz, hc⟩ := hc
          split at hc
          · rename_i hzs; injection hc with hc; subst hc
            exact app_ok hr ht hop hu (.inr ⟨_, hu2⟩) hi hne.2.2 hz hzs has h
          · simp at hc
      · rename_i hd
        obtain ⟨t, t2, rfl, hu, hu2⟩ := two hd
        simp only [Option.bind_eq_some_iff] at hc
        obtain ⟨i, hi, hc⟩ := hc
        split at hc
        · rename_i hne
          simp only [Option.bind_eq_some_iff] at hc
          obtain ⟨z, hz, hc⟩ := hc
          split at hc
          · rename_i hzs; injection hc with hc; subst hc
            exact app_ok hr ht hop hu (.inl hu2) hi hne.2 hz (by rw [hzs, hne.1]) has h
          · simp at hc
        · simp at hc
      · rename_i hd
        obtain ⟨t, t2, rfl, hu, hu2⟩ := two hd
        simp only [Option.bind_eq_some_iff] at hc
        obtain ⟨sz, hsz, hc⟩ := hc
        split at hc
        · simp at hc
        · injection hc with hc; subst hc
          exact copy_ok hr ht hop rfl hu hsz has h
      · simp at hc
  all_goals simp [cOp] at hc

end
end Go.Proofs.Ytejcabdejoameaa.AI

/- From operations to regions: the frame's temporaries; calls. -/
namespace Go.Proofs.Ytejcabdejoameaa.AI
open Go

/-- A function that is called does what the interpreter says. -/
def CallOK (P : Program) (σ : Nat → Nat) (base : Nat) (call : Nat → List Value → Heap → Option (Value × Heap)) : Prop :=
  ∀ (f : Nat) (vs : List Value) (H : Heap) (v : Value) (H' : Heap), call f vs H = some (v, H') →
    (∃ fn, P.funcs[σ f]? = some fn ∧ (fn.name == "runtime.NumGoroutine") = false ∧ fn.body.isNone = false) ∧
    ∀ (B : Map) (w : World) (vs' : List Value), HR σ base B H w → VRs σ B vs vs' →
      Calls P (σ f) ⟨vs'⟩ w fun e w' => ∃ v' B', e = .returned v' ∧ VR σ B' v v' ∧ HR σ base B' H' w' ∧ Stp B H w B' H' w'

section
variable {P : Program} {τ σ : Nat → Nat} {base : Nat} {B : Map} {H : Heap} {w : World} {e : Env} {a : Act} {v : Value} {H' : Heap}

theorem lk_putE {e : Env} {d : Option Nat} {v : Value} {t : Nat} {u : Value} (h : lk (putE e d v) t = some u) : (d = some t ∧ u = v) ∨ (d ≠ some t ∧ lk e t = some u) := by
  cases d with
  | none => exact .inr ⟨by simp, h⟩
  | some d =>
    simp only [putE, lk] at h
    split at h
    · rename_i hd; subst hd; injection h with h; exact .inl ⟨rfl, h.symm⟩
    · rename_i hd; exact .inr ⟨by simpa using hd, h⟩

theorem TR.put (ht : TR σ B e a) {d : Option Nat} {v v' : Value} (hd : ∀ t, d = some t → t < a.tmps.size) (r : VR σ B v v') : TR σ B (putE e d v) (a.put d v') := by
  intro t u hu
  rcases lk_putE hu with ⟨rfl, rfl⟩ | ⟨hne, hu⟩
  · exact ⟨v', by simp [Act.put, hd t rfl], r⟩
  · obtain ⟨u', hu', r'⟩ := ht t u hu
    refine ⟨u', ?_, r'⟩
    cases d with
    | none => exact hu'
    | some d =>
      have : d ≠ t := fun he => hne (by rw [he])
      simp [Act.put, Array.getElem?_setIfInBounds_ne this, hu']

theorem put_size (a : Act) (d : Option Nat) (v : Value) : (a.put d v).tmps.size = a.tmps.size := by cases d <;> simp [Act.put]
theorem put_defers (a : Act) (d : Option Nat) (v : Value) : (a.put d v).defers = a.defers := by cases d <;> rfl

theorem VR.not_bool {v v' : Value} (r : VR σ B v v') (h : ∀ b, v ≠ .bool b) : ∀ b, v' ≠ .bool b := by
  intro b hb
  subst hb
  cases r with
  | atom _ ha => exact h b rfl

theorem want_sound {ops : Array Oper} {o : Oper} {ao : AOper} {b : Bool} (ht : TR σ B e a) (hc : cOper P τ σ ops o = some ao) (h : want ao e = some b) : Region.wanted o (yielded ops a.tmps) = b := by
  simp only [cOper, Option.bind_eq_some_iff] at hc
  obtain ⟨op, _, hc⟩ := hc
  cases hg : o.guard with
  | none =>
    rw [hg] at hc
    simp only [Option.some.injEq] at hc; subst hc
    simp only [want, Option.some.injEq] at h; subst h
    simp [Region.wanted, hg]
  | some g =>
    obtain ⟨j, c⟩ := g
    rw [hg] at hc
    simp only at hc
    split at hc
    · rename_i t hj
      injection hc with hc; subst hc
      simp only [want] at h
      have hy : yielded ops a.tmps j = match a.tmps[t]? with | some (.bool b) => some b | _ => none := by
        unfold yielded; rw [hj]; rfl
      simp only [Region.wanted, hg, hy]
      split at h
      · rename_i q hq
        injection h with h; subst h
        obtain ⟨q', hq', r⟩ := ht t _ hq
        rw [hq', r.of_bool]
        simp
      · rename_i u hnb hq
        injection h with h; subst h
        obtain ⟨q', hq', r⟩ := ht t _ hq
        rw [hq']
        have := r.not_bool (fun b hb => hnb b (by rw [hb]))
        cases q' <;> first | rfl | exact absurd rfl (this _)
      · simp at h
    · simp at hc

theorem cOper_op {ops : Array Oper} {o : Oper} {ao : AOper} (hc : cOper P τ σ ops o = some ao) : cOpA P τ σ o.op = some ao.op ∧ ao.dst = o.dst := by
  simp only [cOper, Option.bind_eq_some_iff] at hc
  obtain ⟨op, hop, hc⟩ := hc
  split at hc
  · injection hc with hc; subst hc; exact ⟨hop, rfl⟩
  · split at hc
    · injection hc with hc; subst hc; exact ⟨hop, rfl⟩
    · simp at hc

/-- What comes of one operation, whatever follows. -/
def Done (σ : Nat → Nat) (base : Nat) (B : Map) (H : Heap) (w : World) (v : Value) (H' : Heap) (v' : Value) (w' : World) (B' : Map) : Prop :=
  VR σ B' v v' ∧ HR σ base B' H' w' ∧ Stp B H w B' H' w'

theorem enter_wp {call : Nat → List Value → Heap → Option (Value × Heap)} (hcall : CallOK P σ base call) {f : Nat} {vs vs' : List Value} (hr : HR σ base B H w) (hv : VRs σ B vs vs') (h : call f vs H = some (v, H'))
    {o : Oper} (hx : execOp a.eval o = callFunc (σ f) ⟨vs'⟩) {K : Act → World → Prop} {Q : Exit → Act → World → Prop} (hK : ∀ v' w' B', Done σ base B H w v H' v' w' B' → K (a.put o.dst v') w') : o.wp P a w K Q := by
  obtain ⟨⟨fn, hf, hn, hb⟩, hc⟩ := hcall f vs H v H' h
  have hrun : (callFunc (σ f) ⟨vs'⟩).run P w = .ok (.enter (σ f) ⟨vs'⟩) w := by
    simp only [callFunc, Sem.run_bind, run_program, Result.andThen_ok, hf, hn, hb, Bool.false_eq_true, if_false, Sem.run_pure]
  unfold Oper.wp
  rw [hx, hrun, Oper.upon_enter]
  refine (hc B w vs' hr hv).mono fun e w' he => ?_
  obtain ⟨v', B', rfl, r1, r2, r3⟩ := he
  exact hK v' w' B' ⟨r1, r2, r3⟩

theorem op_wp {call : Nat → List Value → Heap → Option (Value × Heap)} (hcall : CallOK P σ base call) (hr : HR σ base B H w) (ht : TR σ B e a) {o : Oper} {ao : AOp} (hc : cOpA P τ σ o.op = some ao)
    (h : dval call ao e H = some (v, H')) {K : Act → World → Prop} {Q : Exit → Act → World → Prop} (hK : ∀ v' w' B', Done σ base B H w v H' v' w' B' → K (a.put o.dst v') w') : o.wp P a w K Q := by
  have plain : ∀ {ao}, cOp P τ σ o.op = some ao → aop ao e H = some (v, H') → o.wp P a w K Q := by
    intro ao hc h
    obtain ⟨v', w', B', hy, r1, r2, r3⟩ := cOp_sound hr ht hc h
    unfold Oper.wp
    rcases hy with hy | ⟨hy, rfl⟩
    · rw [hy, Oper.upon_value]; exact hK _ _ _ ⟨r1, r2, r3⟩
    · rw [hy, Oper.upon_skip]; exact hK _ _ _ ⟨r1, r2, r3⟩
  have value : ∀ {x : Operand} {x' : Arg} {as : Array Operand} {as' : List Arg} {tys : Array TypeId}, o.op = .call { callee := .value x, args := as, argTypes := tys } → cArg τ σ x = some x' → cArgs τ σ as.toList = some as' →
      dval call (.callv x' as') e H = some (v, H') → o.wp P a w K Q := by
    intro x x' as as' tys hop hcx hcs h
    simp only [dval] at h
    split at h
    · rename_i i fst cap hf
      simp only [Option.bind_eq_some_iff] at h
      obtain ⟨vs, hvs, h⟩ := h
      have rf := ev_sound ht hcx hf
      generalize hev : a.eval x = y at rf
      cases rf with
      | atom _ hh => simp [AI.atom] at hh
      | func i f1 c1 f' c' h1 r1 h2 r2 =>
        have rall : VRs σ B (fst.toList ++ vs ++ cap.toList) (f'.toList ++ as.toList.map a.eval ++ c'.toList) := (VRs.append ⟨h1, r1⟩ (evs_sound ht hcs hvs)).append ⟨h2, r2⟩
        refine enter_wp hcall hr rall h ?_ hK
        have harr : (f' ++ as.map a.eval ++ c') = (⟨f'.toList ++ as.toList.map a.eval ++ c'.toList⟩ : Array Value) := by apply Array.ext'; simp
        rw [← harr]
        simp only [execOp, hop, resolve, hev, Deferred.ofValue, invoke]
        rfl
    · simp at h
  generalize hop : o.op = op at hc
  unfold cOpA at hc
  split at hc
  · rename_i f args tys
    split at hc
    · rename_i hf
      simp only [Option.map_eq_some_iff] at hc
      obtain ⟨as', has, rfl⟩ := hc
      simp only [dval, Option.bind_eq_some_iff] at h
      obtain ⟨vs, hvs, h⟩ := h
      refine enter_wp hcall hr (evs_sound ht has hvs) h ?_ hK
      have harr : (#[] ++ args.map a.eval ++ #[]) = (⟨args.toList.map a.eval⟩ : Array Value) := by apply Array.ext'; simp
      rw [← harr, hf]
      simp only [execOp, hop, resolve, Deferred.ofValue, Act.eval, invoke]
      rfl
    · simp at hc
  · rename_i x args tys _
    simp only [Option.bind_eq_some_iff, Option.map_eq_some_iff] at hc
    obtain ⟨x', hx, as', has, rfl⟩ := hc
    exact value hop hx has h
  · simp only [Option.bind_eq_some_iff] at hc
    obtain ⟨r, hr0, hc⟩ := hc
    split at hc
    · simp at hc
    · rename_i hnc
      injection hc with hc; subst hc
      refine plain (by rw [hop]; exact hr0) ?_
      unfold dval at h
      split at h
      · simp [isCall] at hnc
      · simp [isCall] at hnc
      · exact h

/-- One operation, its guard asked. -/
theorem step_wp {call : Nat → List Value → Heap → Option (Value × Heap)} (hcall : CallOK P σ base call) (hr : HR σ base B H w) (ht : TR σ B e a) {ops : Array Oper} {o : Oper} {ao : AOper} (hc : cOper P τ σ ops o = some ao)
    (hd : ∀ t, o.dst = some t → t < a.tmps.size) {e' : Env} (h : step call ao e H = some (e', H')) {K : Act → World → Prop} {Q : Exit → Act → World → Prop}
    (hK : ∀ a' w' B', TR σ B' e' a' → HR σ base B' H' w' → Stp B H w B' H' w' → a'.defers = a.defers → a'.tmps.size = a.tmps.size → K a' w') :
    if Region.wanted o (yielded ops a.tmps) then o.wp P a w K Q else K (a.put o.dst undef) w := by
  obtain ⟨hop, hdst⟩ := cOper_op hc
  unfold step at h
  cases hw : want ao e with
  | none => rw [hw] at h; simp at h
  | some b =>
    rw [hw] at h
    rw [want_sound ht hc hw]
    cases b with
    | true =>
      simp only [if_true]
      simp only [does, Option.map_eq_some_iff] at h
      obtain ⟨⟨v, H1⟩, hv, he⟩ := h
      simp only [Prod.mk.injEq] at he
      obtain ⟨rfl, rfl⟩ := he
      refine op_wp hcall hr ht hop hv fun v' w' B' hdone => ?_
      obtain ⟨r1, r2, r3⟩ := hdone
      refine hK _ w' B' ?_ r2 r3 (put_defers _ _ _) (put_size _ _ _)
      rw [hdst]
      exact (ht.mono r3.ext).put hd r1
    | false =>
      simp only [Bool.false_eq_true, if_false]
      injection h with h; injection h with h1 h2; subst h1; subst h2
      refine hK _ w B ?_ hr (.refl _ _ _) (put_defers _ _ _) (put_size _ _ _)
      rw [hdst]
      exact ht.put hd (.tuple' VRs.nil)

/-- A region in the order of its text. -/
theorem aops_wp {call : Nat → List Value → Heap → Option (Value × Heap)} (hcall : CallOK P σ base call) {ops : Array Oper} {Q : Exit → Act → World → Prop} : ∀ {l : List Oper} {al : List AOper} {e e' : Env} {H H' : Heap} {B : Map} {w : World} {a : Act},
    cOpers P τ σ ops l = some al → (∀ o ∈ l, ∀ t, o.dst = some t → t < a.tmps.size) → aops call al e H = some (e', H') → HR σ base B H w → TR σ B e a →
    (∀ a' w' B', TR σ B' e' a' → HR σ base B' H' w' → Stp B H w B' H' w' → a'.defers = a.defers → a'.tmps.size = a.tmps.size → Q .normal a' w') → wpList P ops Q l a w := by
  intro l
  induction l with
  | nil =>
    intro al e e' H H' B w a hc _ h hr ht hQ
    simp only [cOpers, Option.some.injEq] at hc; subst hc
    simp only [aops, Option.some.injEq, Prod.mk.injEq] at h
    obtain ⟨rfl, rfl⟩ := h
    exact wpList_nil (hQ a w B ht hr (.refl _ _ _) rfl rfl)
  | cons o l ih =>
    intro al e e' H H' B w a hc hd h hr ht hQ
    simp only [cOpers, Option.bind_eq_some_iff] at hc
    obtain ⟨ao, hao, al', hal, hc⟩ := hc
    injection hc with hc; subst hc
    simp only [aops, Option.bind_eq_some_iff] at h
    obtain ⟨⟨e1, H1⟩, hs, h⟩ := h
    refine wpList_step fun K hK => step_wp hcall hr ht hao (hd o (by simp)) hs fun a' w' B' t1 r1 s1 d1 z1 => hK _ _ ?_
    exact ih hal (fun o' ho' t ht' => by rw [z1]; exact hd o' (by simp [ho']) t ht') h r1 t1 fun a2 w2 B2 t2 r2 s2 d2 z2 => hQ a2 w2 B2 t2 r2 (s1.trans s2) (d2.trans d1) (z2.trans z1)

end
end Go.Proofs.Ytejcabdejoameaa.AI

/- A region whose order is open: whichever order is drawn, what comes of it is what the interpreter says. -/
namespace Go.Proofs.Ytejcabdejoameaa.AI
open Go

/-! What an operation hangs on. -/
theorem ev_congr {e e' : Env} {x : Arg} (h : ∀ t ∈ argU x, lk e t = lk e' t) : ev e x = ev e' x := by
  cases x <;> simp only [ev]
  exact h _ (by simp [argU])
theorem evs_congr {e e' : Env} : ∀ {xs : List Arg}, (∀ t ∈ xs.flatMap argU, lk e t = lk e' t) → evs e xs = evs e' xs
  | [], _ => rfl
  | x :: xs, h => by
    simp only [evs]
    rw [ev_congr (x := x) (fun t ht => h t (by simp [ht])), evs_congr (xs := xs) (fun t ht => h t (by simp only [List.flatMap_cons, List.mem_append]; exact .inr ht))]
theorem evo_congr {e e' : Env} {x : Option Arg} (h : ∀ t ∈ optU x, lk e t = lk e' t) : evo e x = evo e' x := by
  cases x with
  | none => rfl
  | some x => simp only [evo]; rw [ev_congr h]
theorem evp_congr {e e' : Env} : ∀ {xs : List (Nat × Nat × Arg)}, (∀ t ∈ xs.flatMap (fun x => argU x.2.2), lk e t = lk e' t) → evp e xs = evp e' xs
  | [], _ => rfl
  | (o, s, x) :: xs, h => by
    simp only [evp]
    rw [ev_congr (x := x) (fun t ht => h t (by simp [ht])), evp_congr (xs := xs) (fun t ht => h t (by simp only [List.flatMap_cons, List.mem_append]; exact .inr ht))]

theorem aop_congr {op : AOp} {e e' : Env} {H : Heap} (h : ∀ t ∈ opU op, lk e t = lk e' t) : aop op e H = aop op e' H := by
  have two : ∀ {x y : Arg}, (∀ t ∈ argU x ++ argU y, lk e t = lk e' t) → ev e x = ev e' x ∧ ev e y = ev e' y := fun hh =>
    ⟨ev_congr fun t ht => hh t (by simp [ht]), ev_congr fun t ht => hh t (by simp [ht])⟩
  have ht := h
  cases op <;> simp only [opU] at ht
  case pick c x y =>
    have h1 : ev e c = ev e' c := ev_congr fun t hm => ht t (by simp [hm])
    have h2 : ev e x = ev e' x := ev_congr fun t hm => ht t (by simp [hm])
    have h3 : ev e y = ev e' y := ev_congr fun t hm => ht t (by simp [hm])
    simp only [aop, h1, h2, h3]
  case build z ps => simp only [aop, evp_congr ht]
  case buildS k n z ps => simp only [aop, evp_congr ht]
  case slS x lo hi =>
    have h1 : ev e x = ev e' x := ev_congr fun t hm => ht t (by simp [hm])
    have h2 : evo e lo = evo e' lo := evo_congr fun t hm => ht t (by simp [hm])
    have h3 : evo e hi = evo e' hi := evo_congr fun t hm => ht t (by simp [hm])
    simp only [aop, h1, h2, h3]
  case slA n k x lo hi =>
    have h1 : ev e x = ev e' x := ev_congr fun t hm => ht t (by simp [hm])
    have h2 : evo e lo = evo e' lo := evo_congr fun t hm => ht t (by simp [hm])
    have h3 : evo e hi = evo e' hi := evo_congr fun t hm => ht t (by simp [hm])
    simp only [aop, h1, h2, h3]
  case slL n x lo hi mx =>
    have h1 : ev e x = ev e' x := ev_congr fun t hm => ht t (by simp [hm])
    have h2 : evo e lo = evo e' lo := evo_congr fun t hm => ht t (by simp [hm])
    have h3 : evo e hi = evo e' hi := evo_congr fun t hm => ht t (by simp [hm])
    simp only [aop, h1, h2, h3]
  case mkF i f c =>
    have h1 : evs e f = evs e' f := evs_congr fun t hm => ht t (by simp only [List.flatMap_append, List.mem_append]; exact .inl hm)
    have h2 : evs e c = evs e' c := evs_congr fun t hm => ht t (by simp only [List.flatMap_append, List.mem_append]; exact .inr hm)
    simp only [aop, h1, h2]
  case minI xs => simp only [aop, evs_congr ht]
  case maxI xs => simp only [aop, evs_congr ht]
  case call f xs => rfl
  case callv f xs => rfl
  case new cs => rfl
  all_goals first
    | (simp only [aop, ev_congr ht]; done)
    | (obtain ⟨h1, h2⟩ := two ht; simp only [aop, h1, h2]; done)

theorem dval_congr {call : Nat → List Value → Heap → Option (Value × Heap)} {op : AOp} {e e' : Env} {H : Heap} (h : ∀ t ∈ opU op, lk e t = lk e' t) : dval call op e H = dval call op e' H := by
  cases op
  case call f xs => simp only [dval]; rw [evs_congr (by simpa only [opU] using h)]
  case callv f xs =>
    simp only [opU] at h
    have h1 : ev e f = ev e' f := ev_congr fun t hm => h t (by simp [hm])
    have h2 : evs e xs = evs e' xs := evs_congr fun t hm => h t (List.mem_append.2 (.inr hm))
    simp only [dval, h1, h2]
  all_goals (simp only [dval]; exact aop_congr h)

theorem want_congr {o : AOper} {e e' : Env} (h : ∀ t ∈ operU o, lk e t = lk e' t) : want o e = want o e' := by
  unfold want
  split
  · rfl
  · rename_i t b hg
    rw [h t (by simp [operU, hg])]

theorem map_heap {α : Type} (o : Option α) (f : α → Value) (H H2 : Heap) : o.map (fun x => (f x, H2)) = (o.map (fun x => (f x, H))).map fun x => (x.1, H2) := by cases o <;> rfl
theorem bind_heap {α : Type} {o : Option α} {f g : α → Option (Value × Heap)} {H2 : Heap} (h : ∀ a, g a = (f a).map fun x => (x.1, H2)) : o.bind g = (o.bind f).map fun x => (x.1, H2) := by cases o <;> simp [h]

theorem pure_map {op : AOp} (hp : isPure op = true) (e : Env) (H H2 : Heap) : aop op e H2 = (aop op e H).map fun x => (x.1, H2) := by
  cases op <;> simp only [isPure, Bool.false_eq_true] at hp <;> simp only [aop]
  all_goals first
    | exact map_heap _ (fun x => x) H H2
    | exact map_heap _ _ H H2
    | (exact bind_heap fun _ => map_heap _ _ H H2)
    | (exact bind_heap fun _ => map_heap _ (fun x => x) H H2)
    | (exact bind_heap fun _ => bind_heap fun _ => map_heap _ (fun x => x) H H2)
    | (exact bind_heap fun _ => bind_heap fun _ => map_heap _ _ H H2)
    | (split <;> first | rfl | exact map_heap _ (fun x => x) H H2 | exact map_heap _ _ H H2 | (split <;> first | rfl | exact map_heap _ (fun x => x) H H2 | exact map_heap _ _ H H2))
    | skip
  · exact bind_heap fun _ => bind_heap fun _ => bind_heap fun _ => bind_heap fun _ => by split <;> rfl
  · split
    · exact bind_heap fun ⟨l, h⟩ => by simp only; split <;> first | rfl | (split <;> rfl)
    · exact bind_heap fun _ => rfl
    · rfl
  · exact bind_heap fun _ => by split <;> first | rfl | (split <;> rfl)
  · exact bind_heap fun _ => by split <;> first | rfl | (split <;> rfl)

/-- The memory doesn't matter. -/
theorem pure_heap {op : AOp} (hp : isPure op = true) {e : Env} {H H1 : Heap} (H2 : Heap) {v : Value} (h : aop op e H = some (v, H1)) : H1 = H ∧ aop op e H2 = some (v, H2) := by
  have h1 := pure_map hp e H H
  have h2 := pure_map hp e H H2
  rw [h] at h1 h2
  simp at h1 h2
  exact ⟨h1, h2⟩

theorem read_heap {op : AOp} (hp : isRead op = true) {e : Env} {H H1 : Heap} {v : Value} (h : aop op e H = some (v, H1)) : H1 = H := by
  cases op <;> simp only [isRead, Bool.false_eq_true] at hp
  · simp only [aop] at h
    split at h
    · simp only [Option.bind_eq_some_iff, Option.map_eq_some_iff] at h
      obtain ⟨_, _, _, _, he⟩ := h
      injection he with _ e2; exact e2.symm
    · simp at h
  · simp only [aop, Option.bind_eq_some_iff, Option.map_eq_some_iff] at h
    obtain ⟨_, _, _, _, _, _, he⟩ := h
    injection he with _ e2; exact e2.symm
  · simp only [aop] at h
    split at h
    · simp only [Option.bind_eq_some_iff] at h
      obtain ⟨_, _, ⟨_, _⟩, _, h⟩ := h
      simp only at h
      split at h
      · injection h with h; injection h with _ e2; exact e2.symm
      · simp at h
    · simp at h

theorem sameV_eq : ∀ (d : Nat) (v v' : Value), sameV d v v' = true → v = v' := by
  intro d
  induction d with
  | zero => intro v v' h; simp [sameV] at h
  | succ d ih =>
    have key : ∀ (a b : List Value), sameV.sameL (sameV d) a b = true → a = b := by
      intro a
      induction a with
      | nil => intro b h; cases b <;> simp [sameV.sameL] at h ⊢
      | cons x a iha =>
        intro b h
        cases b with
        | nil => simp [sameV.sameL] at h
        | cons y b =>
          simp only [sameV.sameL, Bool.and_eq_true] at h
          rw [ih x y h.1, iha b h.2]
    intro v v' h
    unfold sameV at h
    split at h <;> first
      | (simp at h; done)
      | (simp only [beq_iff_eq] at h; rw [h])
      | (simp only [Bool.and_eq_true, decide_eq_true_eq] at h; rw [h.1, h.2]; done)
      | (simp only [Bool.and_eq_true, decide_eq_true_eq] at h; rw [h.1.1, h.1.2, h.2]; done)
      | (simp only [decide_eq_true_eq] at h; rw [h]; done)
      | rfl
      | skip
    · simp only [decide_eq_true_eq] at h
      rename_i a b
      have : a = b := by
        obtain ⟨⟨a⟩⟩ := a; obtain ⟨⟨b⟩⟩ := b
        simp at h; rw [h]
      rw [this]
    · rw [show _ = _ from Array.ext' (key _ _ h)]
    · rw [show _ = _ from Array.ext' (key _ _ h)]

end Go.Proofs.Ytejcabdejoameaa.AI

/- A region whose order is open, second part. -/
namespace Go.Proofs.Ytejcabdejoameaa.AI
open Go

theorem filter_lt {p q : Nat → Bool} : ∀ {l : List Nat} {x : Nat}, (∀ y, q y = true → p y = true) → x ∈ l → p x = true → q x = false → (l.filter q).length < (l.filter p).length := by
  intro l
  have le : ∀ (l : List Nat), (∀ y, q y = true → p y = true) → (l.filter q).length ≤ (l.filter p).length := by
    intro l h
    induction l with
    | nil => simp
    | cons y l ih =>
      simp only [List.filter_cons]
      cases hq : q y with
      | true => simp [h y hq, ih]
      | false => cases hp : p y <;> simp [ih] ; omega
  induction l with
  | nil => intro x _ hx; simp at hx
  | cons y l ih =>
    intro x h hx hp hq
    have h0 := le l h
    rcases List.mem_cons.1 hx with rfl | hx
    · simp [hp, hq]; omega
    · have := ih h hx hp hq
      simp only [List.filter_cons]
      cases hq' : q y with
      | true => simp [h y hq', this]
      | false => cases hp' : p y <;> simp [this] ; omega

/-- The states between the operations. -/
theorem trace {call : Nat → List Value → Heap → Option (Value × Heap)} : ∀ {al : List DOper} {hist : List Heap} {e : Env} {H : Heap} {e' : Env} {H' : Heap}, aopsD call al hist e H = some (e', H') →
    ∃ f : Nat → Env × Heap × List Heap, f 0 = (e, H, hist) ∧ (f al.length).1 = e' ∧ (f al.length).2.1 = H' ∧ ∀ (p : Nat) (d : DOper), al[p]? = some d →
      step call d.o (f p).1 (f p).2.1 = some ((f (p + 1)).1, (f (p + 1)).2.1) ∧ (f (p + 1)).2.2 = (if d.eff then (f p).2.1 :: (f p).2.2 else (f p).2.2) ∧
      (d.back = 0 ∨ want d.o (f p).1 = some false ∨ ∃ v H2, aop d.o.op (f p).1 (f p).2.1 = some (v, H2) ∧ again d.o.op (f p).1 v ((f p).2.2.take d.back) = true) := by
  intro al
  induction al with
  | nil =>
    intro hist e H e' H' h
    simp only [aopsD, Option.some.injEq, Prod.mk.injEq] at h
    exact ⟨fun _ => (e, H, hist), rfl, h.1, h.2, fun p d hd => by simp at hd⟩
  | cons d al ih =>
    intro hist e H e' H' h
    simp only [aopsD, Option.bind_eq_some_iff] at h
    obtain ⟨⟨e1, H1⟩, hs, h⟩ := h
    simp only at h
    by_cases hcond : okBack d hist e H = true
    · rw [if_pos hcond] at h
      obtain ⟨f, f0, f1, f2, f3⟩ := ih h
      refine ⟨fun p => match p with | 0 => (e, H, hist) | p + 1 => f p, rfl, f1, f2, fun p d' hd => ?_⟩
      cases p with
      | zero =>
        simp only [zab, Option.some.injEq] at hd; subst hd
        simp only [f0]
        refine ⟨hs, by first | rfl | trivial, ?_⟩
        simp only [okBack, Bool.or_eq_true, decide_eq_true_eq, beq_iff_eq] at hcond
        rcases hcond with (hc | hc) | hc
        · exact .inl hc
        · exact .inr (.inl hc)
        · split at hc
          · rename_i v H2 hv; exact .inr (.inr ⟨v, H2, hv, hc⟩)
          · simp at hc
      | succ p =>
        simp only [zaa] at hd
        exact f3 p d' hd
    · rw [if_neg hcond] at h; simp at h

theorem again_mem {op : AOp} {e : Env} {v : Value} : ∀ {l : List Heap}, again op e v l = true → ∀ H ∈ l, ∃ H2, aop op e H = some (v, H2) := by
  intro l
  induction l with
  | nil => intro _ H hH; simp at hH
  | cons H l ih =>
    intro h K hK
    simp only [again, Bool.and_eq_true] at h
    rcases List.mem_cons.1 hK with rfl | hK
    · obtain ⟨h, _⟩ := h
      split at h
      · rename_i v' H2 hv
        rw [sameV_eq 9 _ _ h]; exact ⟨H2, hv⟩
      · simp at h
    · exact ih h.2 K hK

structure DFacts (ops : Array Oper) (pre : List (List Nat)) (at_ : Nat → Nat) (d : Nat → DOper) (fl : Nat → Bool) : Prop where
  lt : ∀ p, p < ops.size → at_ p < ops.size
  sur : ∀ i, i < ops.size → ∃ p, p < ops.size ∧ at_ p = i
  just : ∀ i, i < ops.size → ∀ k ∈ pre.getD i [], k ∈ direct (ops.getD i default) ∨ ∃ x ∈ direct (ops.getD i default), k ∈ pre.getD x []
  ord : ∀ p, p < ops.size → ∀ k ∈ direct (ops.getD (at_ p) default), ∃ q, q < p ∧ q < ops.size ∧ at_ q = k
  inj : ∀ p q, p < ops.size → q < ops.size → p ≠ q → at_ p ≠ at_ q
  dst : ∀ p q, p < ops.size → q < ops.size → p ≠ q → ∀ t, (d p).o.dst = some t → (d q).o.dst ≠ some t
  use : ∀ p q, p < ops.size → q < ops.size → p ≠ q → ∀ t, (d q).o.dst = some t → t ∈ operU (d p).o → (q < p → at_ q ∈ pre.getD (at_ p) []) ∧ (¬ q < p → at_ p ∈ pre.getD (at_ q) [])
  later : ∀ p q, p < ops.size → q < ops.size → p < q → (d q).eff = true → isPure (d p).o.op = false → fl q = false → at_ p ∈ pre.getD (at_ q) []
  earlier : ∀ p q, p < ops.size → q < ops.size → q < p → (d q).eff = true → isPure (d p).o.op = false → fl p = false → at_ q ∈ pre.getD (at_ p) [] ∨ ((d p).eff = false ∧ cnt (fun x => (d x).eff) q p < (d p).back)
  flE : ∀ q, fl q = true → (d q).eff = true
  flA : ∀ q, fl q = true → (∃ t, (ops.getD (at_ q) default).op = .alloc t) ∧ (ops.getD (at_ q) default).guard = none
  flU : ∀ q, q < ops.size → fl q = true → ∃ t, (d q).o.dst = some t ∧ ∀ p, p < ops.size → t ∈ operU (d p).o → q < p ∧ ∀ e, e < ops.size → e ≤ q → (d e).eff = true → at_ e ∈ pre.getD (at_ p) []
  flR : ∀ q p, q < ops.size → fl q = true → p < q → (d p).eff = false → isPure (d p).o.op = false → at_ p ∈ pre.getD (at_ q) [] ∨ ∃ e, p < e ∧ e < q ∧ (d e).eff = true ∧ fl e = false
  kind : ∀ p, p < ops.size → (d p).eff = true ∨ isPure (d p).o.op = true ∨ isRead (d p).o.op = true

theorem isFl_facts {ops : Array Oper} {pre : List (List Nat)} {ord : List Nat} {ds : List DOper} {q : Nat} (h : isFl ops pre ord ds q = true) :
    (ds.getD q ⟨⟨none, none, .new []⟩, false, 0⟩).eff = true ∧ ((∃ t, (ops.getD (ord.getD q 0) default).op = .alloc t) ∧ (ops.getD (ord.getD q 0) default).guard = none) ∧
    (∃ t, (ds.getD q ⟨⟨none, none, .new []⟩, false, 0⟩).o.dst = some t ∧ ∀ p, p < ops.size → t ∈ operU (ds.getD p ⟨⟨none, none, .new []⟩, false, 0⟩).o → q < p ∧ ∀ e, e < ops.size → e ≤ q → (ds.getD e ⟨⟨none, none, .new []⟩, false, 0⟩).eff = true → ord.getD e 0 ∈ pre.getD (ord.getD p 0) []) ∧
    (∀ p, p < ops.size → p < q → (ds.getD p ⟨⟨none, none, .new []⟩, false, 0⟩).eff = false → isPure (ds.getD p ⟨⟨none, none, .new []⟩, false, 0⟩).o.op = false → ord.getD p 0 ∈ pre.getD (ord.getD q 0) [] ∨ ∃ e, p < e ∧ e < q ∧ (ds.getD e ⟨⟨none, none, .new []⟩, false, 0⟩).eff = true ∧ isFl ops pre ord ds e = false) := by
  have hna : ∀ e, isAlloc (ops.getD (ord.getD e 0) default) = false → isFl ops pre ord ds e = false := fun e he => by
    unfold isFl; simp only [he, Bool.false_and]
  unfold isFl at h
  simp only [Bool.and_eq_true] at h
  obtain ⟨⟨⟨h1, h2⟩, h3⟩, h4⟩ := h
  refine ⟨h2, ?_, ?_, ?_⟩
  · unfold isAlloc at h1
    simp only [Bool.and_eq_true] at h1
    refine ⟨?_, Option.isNone_iff_eq_none.1 h1.1⟩
    have h1 := h1.2
    split at h1
    · rename_i t ht; exact ⟨t, ht⟩
    · simp at h1
  · split at h3
    · rename_i t ht
      refine ⟨t, ht, fun p hp hu => ?_⟩
      simp only [List.all_eq_true, List.mem_range, Bool.or_eq_true, Bool.and_eq_true, decide_eq_true_eq, Bool.not_eq_true'] at h3
      rcases h3 p hp with h | ⟨h5, h6⟩
      · rw [List.contains_iff_mem.2 hu] at h; simp at h
      · refine ⟨h5, fun e he hle hee => ?_⟩
        rcases h6 e he with (h | h) | h
        · omega
        · rw [hee] at h; simp at h
        · exact List.contains_iff_mem.1 h
    · simp at h3
  · intro p hp hlt hpe hpu
    simp only [List.all_eq_true, List.mem_range, Bool.or_eq_true, decide_eq_true_eq] at h4
    rcases h4 p hp with (((h | h) | h) | h) | h
    · omega
    · rw [hpe] at h; simp at h
    · rw [hpu] at h; simp at h
    · exact .inl (List.contains_iff_mem.1 h)
    · simp only [List.any_eq_true, List.mem_range, Bool.and_eq_true, decide_eq_true_eq, Bool.not_eq_true'] at h
      obtain ⟨e, _, h5, h6, h7, h8⟩ := h
      exact .inr ⟨e, h5, h6, h7, hna e h8⟩

theorem okD_facts {ops : Array Oper} {pre : List (List Nat)} {ord : List Nat} {ds : List DOper} (h : okD ops pre ord ds = true) :
    ord.length = ops.size ∧ ds.length = ops.size ∧ DFacts ops pre (fun p => ord.getD p 0) (fun p => ds.getD p ⟨⟨none, none, .new []⟩, false, 0⟩) (isFl ops pre ord ds) := by
  have hfl := @isFl_facts ops pre ord ds
  simp only [okD, Bool.and_eq_true, decide_eq_true_eq, List.all_eq_true, List.mem_range, Bool.or_eq_true, List.contains_iff_mem, List.any_eq_true, Bool.not_eq_true'] at h
  obtain ⟨⟨⟨⟨⟨⟨⟨h1, h2⟩, h3⟩, h4⟩, h5⟩, h6⟩, h7⟩, h8⟩ := h
  refine ⟨h1, h2, ⟨h3, fun i hi => ?_, fun i hi k hk => ?_, fun p hp k hk => ?_, fun p q hp hq hne => ?_, fun p q hp hq hne t ht => ?_, fun p q hp hq hne t ht hu => ?_, fun p q hp hq hlt he hn hf => ?_, fun p q hp hq hlt he hn hf => ?_, fun q hq => (hfl hq).1, fun q hq => (hfl hq).2.1, fun q _ hq => (hfl hq).2.2.1, fun q p hq hqf hlt he hn => (hfl hqf).2.2.2 p (by omega) hlt he hn, fun p hp => ?_⟩⟩
  · obtain ⟨p, hp⟩ := List.mem_iff_getElem?.1 (h4 i hi)
    exact ⟨p, by rw [← h1]; exact (List.getElem?_eq_some_iff.1 hp).1, by simp [hp]⟩
  · exact h5 i hi k hk
  · obtain ⟨q, hq, hq1, hq2⟩ := h6 p hp k hk
    exact ⟨q, hq1, hq, hq2⟩
  · rcases h7 p hp q hq with h | h
    · exact absurd h hne
    · exact h.1.1.1.1
  · rcases h7 p hp q hq with h | h
    · exact absurd h hne
    · rcases h.1.1.1.2 with h | h
      · have h := Option.isNone_iff_eq_none.1 h; rw [h] at ht; simp at ht
      · intro hq'; exact h (by rw [ht, hq'])
  · rcases h7 p hp q hq with h | h
    · exact absurd h hne
    · have h := h.1.1.2
      rw [ht] at h
      simp only [Bool.or_eq_true, Bool.not_eq_true'] at h
      rcases h with h | h
      · rw [List.contains_iff_mem.2 hu] at h; simp at h
      · refine ⟨fun hlt => ?_, fun hlt => ?_⟩
        · rw [if_pos hlt] at h; exact List.contains_iff_mem.1 h
        · rw [if_neg hlt] at h; exact List.contains_iff_mem.1 h
  · rcases h7 p hp q hq with h | h
    · omega
    · rcases h.1.2 with (((h | h) | h) | h) | h
      · omega
      · rw [h] at he; simp at he
      · rw [h] at hn; simp at hn
      · exact h
      · rw [hf] at h; simp at h
  · rcases h7 p hp q hq with h | h
    · omega
    · rcases h.2 with ((((h | h) | h) | h) | h) | h
      · omega
      · rw [h] at he; simp at he
      · rw [h] at hn; simp at hn
      · exact .inl h
      · rw [hf] at h; simp at h
      · exact .inr ⟨by simpa using h.1, h.2⟩
  · rcases h8 p hp with (h | h) | h
    · exact .inl h
    · exact .inr (.inl h)
    · exact .inr (.inr h)

end Go.Proofs.Ytejcabdejoameaa.AI

/- A region whose order is open, third part. -/
namespace Go.Proofs.Ytejcabdejoameaa.AI
open Go

theorem lk_restrict {e : Env} : ∀ {us : List Nat} {t : Nat}, lk (us.filterMap fun t => (lk e t).map fun v => (t, v)) t = if t ∈ us then lk e t else none := by
  intro us
  induction us with
  | nil => intro t; simp [lk]
  | cons u us ih =>
    intro t
    cases hu : lk e u with
    | none =>
      simp only [List.filterMap_cons, hu, Option.map_none, ih, List.mem_cons]
      by_cases htu : t = u
      · subst htu; simp [hu]
      · simp [htu]
    | some v =>
      simp only [List.filterMap_cons, hu, zah, lk, ih, List.mem_cons]
      by_cases htu : u = t
      · subst htu; simp [hu]
      · have : ¬ t = u := fun h => htu h.symm
        simp [htu, this]

theorem cOpers_get {P : Program} {τ σ : Nat → Nat} {ops : Array Oper} : ∀ {l : List Oper} {os : List AOper}, cOpers P τ σ ops l = some os → ∀ (i : Nat) (ao : AOper), os[i]? = some ao → ∃ o, l[i]? = some o ∧ cOper P τ σ ops o = some ao := by
  intro l
  induction l with
  | nil => intro os h i ao hi; simp only [cOpers, Option.some.injEq] at h; subst h; simp at hi
  | cons o l ih =>
    intro os h i ao hi
    simp only [cOpers, Option.bind_eq_some_iff] at h
    obtain ⟨ao', hao, os', hos, h⟩ := h
    injection h with h; subst h
    cases i with
    | zero => simp at hi; subst hi; exact ⟨o, rfl, hao⟩
    | succ i => exact ih hos i ao (by simpa using hi)

theorem permD_le {os : List AOper} : ∀ (l : List (Nat × Nat)), (permD os l).length ≤ l.length
  | [] => by simp [permD]
  | (i, b) :: r => by
    simp only [permD]
    split <;> simp only [zal] <;> have := permD_le (os := os) r <;> omega

theorem permD_get {os : List AOper} : ∀ {l : List (Nat × Nat)}, (permD os l).length = l.length → ∀ (p i b : Nat), l[p]? = some (i, b) → ∃ ao, os[i]? = some ao ∧ (permD os l)[p]? = some ⟨ao, isEff ao.op, b⟩ := by
  intro l
  induction l with
  | nil => intro _ p i b h; simp at h
  | cons x l ih =>
    obtain ⟨i0, b0⟩ := x
    intro hl p i b h
    cases ho : os[i0]? with
    | none =>
      simp only [permD, ho, zal] at hl
      have := permD_le (os := os) l
      omega
    | some ao0 =>
      simp only [permD, ho, zal, Nat.add_right_cancel_iff] at hl
      cases p with
      | zero =>
        simp only [zab, Option.some.injEq, Prod.mk.injEq] at h
        obtain ⟨rfl, rfl⟩ := h
        exact ⟨ao0, ho, by simp [permD, ho]⟩
      | succ p =>
        obtain ⟨ao, h1, h2⟩ := ih hl p i b (by simpa using h)
        exact ⟨ao, h1, by simpa [permD, ho] using h2⟩

/-- A variable that is made already, though not yet in the interpreter's order. -/
def Pend (σ : Nat → Nat) (base : Nat) (d : Nat → DOper) (B : Map) (H : Heap) (w0 : World) (a : Act) (w : World) (q g : Nat) : Prop :=
  ∃ (t : Nat) (cs : List Value) (ty : TypeId), (d q).o.dst = some t ∧ (d q).o.op = .new cs ∧ (d q).o.guard = none ∧ (∀ B, VRs σ B cs cs) ∧ a.tmps[t]? = some (.pointer (some ⟨g, 0, none⟩)) ∧ w.heap[g]? = some (.cells ⟨cs⟩ ty) ∧
    base ≤ g ∧ w0.heap.size ≤ g ∧ ¬ Mp B H g

/-- What is known while a region is carried out in the order that was drawn: L tells which places of the interpreter's order are done. -/
structure Mid (σ : Nat → Nat) (base : Nat) (n : Nat) (d : Nat → DOper) (fl : Nat → Bool) (f : Nat → Env × Heap × List Heap) (B0 : Map) (H0 : Heap) (w0 : World) (a0 : Act) (L : Nat → Prop) (B : Map) (s : Nat) (a : Act) (w : World) : Prop where
  sn : s ≤ n
  effL : ∀ p, p < n → (d p).eff = true → p < s → L p
  effR : ∀ p, p < n → (d p).eff = true → L p → p < s ∨ fl p = true
  hr : HR σ base B (f s).2.1 w
  stp : Stp B0 H0 w0 B (f s).2.1 w
  put : ∀ q, q < n → L q → ¬ (s ≤ q ∧ fl q = true) → ∀ t, (d q).o.dst = some t → ∀ v, lk (f (q + 1)).1 t = some v → ∃ v', a.tmps[t]? = some v' ∧ VR σ B v v'
  pend : ∃ G : Nat → Nat, (∀ q, q < n → L q → s ≤ q → fl q = true → Pend σ base d B (f s).2.1 w0 a w q (G q)) ∧ ∀ q r, q < n → r < n → L q → L r → s ≤ q → s ≤ r → fl q = true → fl r = true → q ≠ r → G q ≠ G r
  old : ∀ t, (∀ q, q < n → L q → (d q).o.dst ≠ some t) → a.tmps[t]? = a0.tmps[t]?
  defers : a.defers = a0.defers
  size : a.tmps.size = a0.tmps.size

/-- No variable is left that could be taken over. -/
def Norm (n : Nat) (d : Nat → DOper) (fl : Nat → Bool) (L : Nat → Prop) (s : Nat) : Prop := ∀ q, q < n → L q → s ≤ q → fl q = true → ∃ e, e < q ∧ (d e).eff = true ∧ ¬ L e

/-- Other blocks were made beside those that are known. -/
theorem HR.besides {σ : Nat → Nat} {base : Nat} {B : Map} {H : Heap} {w w' : World} (h : HR σ base B H w) (hs : w.heap.size ≤ w'.heap.size) (hk : ∀ g, g < w.heap.size → w'.heap[g]? = w.heap[g]?) : HR σ base B H w' := by
  refine ⟨fun i b hi hb => ?_, fun i b hi hb => ?_, h.inj, h.dom, Nat.le_trans h.big hs⟩
  · obtain ⟨g, f, z, cs, ty, fr, h1, h2, h3, h4⟩ := h.rw i b hi hb
    exact ⟨g, f, z, cs, ty, fr, h1, h2, by rw [hk g (Array.getElem?_eq_some_iff.1 h3).1]; exact h3, h4⟩
  · obtain ⟨g, o, h1, h2, h3⟩ := h.ro i b hi hb
    refine ⟨g, o, h1, h2, fun j x hx => ?_⟩
    obtain ⟨x', hx', hr⟩ := h3 j x hx
    refine ⟨x', ?_, hr⟩
    rw [← hx']
    unfold World.cell?
    rw [hk g (Nat.lt_of_lt_of_le h2 h.big)]
theorem cOper_guard {P : Program} {τ σ : Nat → Nat} {ops : Array Oper} {o : Oper} {ao : AOper} (h : cOper P τ σ ops o = some ao) (hg : o.guard = none) : ao.guard = none := by
  simp only [cOper, hg, Option.bind_eq_some_iff] at h
  obtain ⟨op, _, h⟩ := h
  simp only [Option.some.injEq] at h
  rw [← h]

/-- A block that is there already. -/
theorem HR.adopt {σ : Nat → Nat} {base : Nat} {B : Map} {H : Heap} {w : World} (h : HR σ base B H w) {g : Nat} {cs : List Value} {ty : TypeId} {fr : Nat × Nat}
    (hg : w.heap[g]? = some (.cells ⟨cs⟩ ty fr)) (hb : base ≤ g) (hm : ¬ Mp B H g) (hf : ∀ o, o < cs.length → ¬ (fr.1 ≤ o ∧ o < fr.2)) (hv : VRs σ B cs cs) :
    HR σ base (bind1 B H.length ⟨g, 0, some cs.length⟩) (H ++ [some ⟨true, cs⟩]) w ∧ ∀ g', Mp (bind1 B H.length ⟨g, 0, some cs.length⟩) (H ++ [some ⟨true, cs⟩]) g' → Mp B H g' ∨ g' = g := by
  have hx := ext_bind1 h ⟨g, 0, some cs.length⟩
  have hme : bind1 B H.length ⟨g, 0, some cs.length⟩ H.length = some ⟨g, 0, some cs.length⟩ := by simp [bind1]
  refine ⟨⟨fun i b hi hb' => ?_, fun i b hi hb' => ?_, fun i j b c p q hi hj hb' hc hpi hqj he => ?_, fun i p hi => ?_, h.big⟩, fun g' hm' => ?_⟩
  · rcases hget_append hi with ⟨hi', hi⟩ | ⟨rfl, rfl⟩
    · obtain ⟨g, f, z, cs', ty', fr', e, hb', hg, hl', hfr, hle, hv'⟩ := h.rw i b hi hb'
      exact ⟨g, f, z, cs', ty', fr', hx i _ e, hb', hg, hl', hfr, hle, hv'.mono hx⟩
    · exact ⟨g, 0, cs.length, cs, ty, fr, hme, hb, hg, by simp, hf, Nat.le_refl _, by simpa using hv.mono hx⟩
  · rcases hget_append hi with ⟨hi', hi⟩ | ⟨rfl, rfl⟩
    · obtain ⟨g, o, e, hlt', hc⟩ := h.ro i b hi hb'
      refine ⟨g, o, hx i _ e, hlt', fun j x hj => ?_⟩
      obtain ⟨x', hx', r⟩ := hc j x hj
      exact ⟨x', hx', r.mono hx⟩
    · simp at hb'
  · rcases hget_append hi with ⟨hi', hi⟩ | ⟨rfl, rfl⟩ <;> rcases hget_append hj with ⟨hj', hj⟩ | ⟨rfl, rfl⟩
    · simp only [bind1, Nat.ne_of_lt hi', Nat.ne_of_lt hj', if_false] at hpi hqj
      exact h.inj i j b c p q hi hj hb' hc hpi hqj he
    · simp only [bind1, Nat.ne_of_lt hi', if_false] at hpi
      rw [hme] at hqj; injection hqj with hqj; subst hqj
      exact absurd ⟨i, b, p, hi, hb', hpi, he⟩ hm
    · simp only [bind1, Nat.ne_of_lt hj', if_false] at hqj
      rw [hme] at hpi; injection hpi with hpi; subst hpi
      exact absurd ⟨j, c, q, hj, hc, hqj, he.symm⟩ hm
    · rfl
  · simp only [bind1] at hi
    simp only [zai, List.length_singleton]
    split at hi
    · omega
    · have := h.dom i p hi; omega
  · obtain ⟨i, b, p, hi, hb', hpi, rfl⟩ := hm'
    rcases hget_append hi with ⟨hi', hi⟩ | ⟨rfl, rfl⟩
    · simp only [bind1, Nat.ne_of_lt hi', if_false] at hpi
      exact .inl ⟨i, b, p, hi, hb', hpi, rfl⟩
    · rw [hme] at hpi; injection hpi with hpi; subst hpi
      exact .inr rfl

section
variable {P : Program} {τ σ : Nat → Nat} {base : Nat}
variable {call : Nat → List Value → Heap → Option (Value × Heap)}
variable {ops : Array Oper} {pre : List (List Nat)} {at_ : Nat → Nat} {d : Nat → DOper} {fl : Nat → Bool} {f : Nat → Env × Heap × List Heap}

/-- What a step of the interpreter's order puts. -/
def PutV (call : Nat → List Value → Heap → Option (Value × Heap)) (dd : DOper) (e : Env) (H : Heap) (e' : Env) (H' : Heap) : Prop :=
  (want dd.o e = some true ∧ ∃ v, dval call dd.o.op e H = some (v, H') ∧ e' = putE e dd.o.dst v) ∨ (want dd.o e = some false ∧ H' = H ∧ e' = putE e dd.o.dst undef)

theorem step_putV {dd : DOper} {e e' : Env} {H H' : Heap} (h : step call dd.o e H = some (e', H')) : PutV call dd e H e' H' := by
  unfold step at h
  split at h
  · rename_i hw
    simp only [does, Option.map_eq_some_iff] at h
    obtain ⟨⟨v, H1⟩, hv, he⟩ := h
    simp only [Prod.mk.injEq] at he
    exact .inl ⟨hw, v, by rw [hv, he.2], he.1.symm⟩
  · rename_i hw
    injection h with h; injection h with h1 h2
    exact .inr ⟨hw, h2.symm, h1.symm⟩
  · simp at h

theorem dval_pure {op : AOp} (h : isPure op = true ∨ isRead op = true) (e : Env) (H : Heap) : dval call op e H = aop op e H := by
  cases op <;> first | rfl | (simp [isPure, isRead] at h)

variable (F : DFacts ops pre at_ d fl)
variable (T : ∀ p, p < ops.size → PutV call (d p) (f p).1 (f p).2.1 (f (p + 1)).1 (f (p + 1)).2.1)
variable (Hs : ∀ p, p < ops.size → (f (p + 1)).2.2 = if (d p).eff then (f p).2.1 :: (f p).2.2 else (f p).2.2)
variable (Bk : ∀ p, p < ops.size → (d p).back = 0 ∨ want (d p).o (f p).1 = some false ∨ ∃ v H2, aop (d p).o.op (f p).1 (f p).2.1 = some (v, H2) ∧ again (d p).o.op (f p).1 v ((f p).2.2.take (d p).back) = true)
include F T Hs Bk

omit Hs Bk in
theorem heap_same {p : Nat} (hp : p < ops.size) (he : (d p).eff = false) : (f (p + 1)).2.1 = (f p).2.1 := by
  rcases T p hp with ⟨_, v, hv, _⟩ | ⟨_, h, _⟩
  · rcases F.kind p hp with h | h | h
    · rw [h] at he; simp at he
    · rw [dval_pure (.inl h)] at hv; exact (pure_heap h [] hv).1
    · rw [dval_pure (.inr h)] at hv; exact read_heap h hv
  · exact h

omit Hs Bk in
theorem heap_range {s : Nat} : ∀ {p : Nat}, s ≤ p → p ≤ ops.size → (∀ q, s ≤ q → q < p → (d q).eff = false) → (f p).2.1 = (f s).2.1 := by
  intro p
  induction p with
  | zero => intro h _ _; obtain rfl : s = 0 := by omega
            rfl
  | succ p ih =>
    intro h hn hq
    by_cases e : s = p + 1
    · subst e; rfl
    · rw [heap_same F T (by omega) (hq p (by omega) (by omega))]
      exact ih (by omega) (by omega) fun q h1 h2 => hq q h1 (by omega)

omit F Hs Bk in
theorem lk_before {t : Nat} : ∀ {p : Nat}, p ≤ ops.size → (∀ q, q < p → (d q).o.dst ≠ some t) → lk (f p).1 t = lk (f 0).1 t := by
  intro p
  induction p with
  | zero => intro _ _; rfl
  | succ p ih =>
    intro hn h
    rw [← ih (by omega) fun q hq => h q (by omega)]
    have hne := h p (by omega)
    have key : ∀ v, lk (putE (f p).1 (d p).o.dst v) t = lk (f p).1 t := by
      intro v
      cases hd : (d p).o.dst with
      | none => rfl
      | some u =>
        have : ¬ u = t := fun e => hne (by rw [hd, e])
        simp [putE, lk, this]
    rcases T p (by omega) with ⟨_, v, _, he⟩ | ⟨_, _, he⟩ <;> rw [he, key]

omit Hs Bk in
theorem lk_after {t q : Nat} (hq : q < ops.size) (hd : (d q).o.dst = some t) : ∀ {p : Nat}, q < p → p ≤ ops.size → lk (f p).1 t = lk (f (q + 1)).1 t := by
  intro p
  induction p with
  | zero => intro h; omega
  | succ p ih =>
    intro h hn
    by_cases e : q = p
    · subst e; rfl
    · rw [← ih (by omega) (by omega)]
      have hne : (d p).o.dst ≠ some t := F.dst q p hq (by omega) e t hd
      have key : ∀ v, lk (putE (f p).1 (d p).o.dst v) t = lk (f p).1 t := by
        intro v
        cases hd : (d p).o.dst with
        | none => rfl
        | some u =>
          have : ¬ u = t := fun e => hne (by rw [hd, e])
          simp [putE, lk, this]
      rcases T p (by omega) with ⟨_, v, _, he⟩ | ⟨_, _, he⟩ <;> rw [he, key]

omit F T Bk in
theorem hist_at {q : Nat} (he : (d q).eff = true) : ∀ {p : Nat}, q < p → p ≤ ops.size → (f p).2.2[cnt (fun x => (d x).eff) q p]? = some (f q).2.1 := by
  intro p
  induction p with
  | zero => intro h; omega
  | succ p ih =>
    intro h hn
    rw [Hs p (by omega)]
    by_cases e : q = p
    · subst e
      have hz : ∀ p, p ≤ q → cnt (fun x => (d x).eff) q p = 0 := by
        intro p
        induction p with
        | zero => intro _; rfl
        | succ p ih => intro hp; simp only [cnt]; rw [ih (by omega), if_neg (fun h => by omega)]
      simp only [cnt]
      rw [hz q (Nat.le_refl _), if_pos he]
      simp
    · have := ih (by omega) (by omega)
      simp only [cnt]
      by_cases hp : (d p).eff = true
      · rw [if_pos hp, if_pos ⟨by omega, hp⟩]; simpa using this
      · rw [if_neg hp, if_neg (fun h => hp h.2)]; simpa using this

omit Hs Bk in
/-- A variable that was made already is taken over. -/
theorem mid_advance {B0 : Map} {H0 : Heap} {w0 : World} {a0 : Act} {L : Nat → Prop} {B : Map} {s : Nat} {a : Act} {w : World} (M : Mid σ base ops.size d fl f B0 H0 w0 a0 L B s a w)
    {q : Nat} (hq : q < ops.size) (hL : L q) (hs : s ≤ q) (hf : fl q = true) (hno : ∀ e, s ≤ e → e < q → (d e).eff = false) : ∃ B', Mid σ base ops.size d fl f B0 H0 w0 a0 L B' (q + 1) a w := by
  obtain ⟨G, hG, hGG⟩ := M.pend
  obtain ⟨t, cs, ty, e1, e2, e3, e4, e5, e6, e7, e8, e9⟩ := hG q hq hL hs hf
  have hh := heap_range F T (s := s) (p := q) hs (by omega) hno
  have hT : (f (q + 1)).2.1 = (f s).2.1 ++ [some ⟨true, cs⟩] ∧ (f (q + 1)).1 = putE (f q).1 (some t) (.pointer (some ⟨(f s).2.1.length, 0, none⟩)) := by
    rcases T q hq with ⟨_, v, hv, he⟩ | ⟨hw, _, _⟩
    · rw [e2] at hv
      simp only [dval, aop, Option.some.injEq, Prod.mk.injEq] at hv
      obtain ⟨rfl, hv⟩ := hv
      rw [he, e1, ← hv, hh]; exact ⟨rfl, rfl⟩
    · unfold want at hw; rw [e3] at hw; simp at hw
  obtain ⟨h1, h2⟩ := M.hr.adopt e6 e7 e9 (fun o _ => by omega) (e4 B)
  have hx := ext_bind1 M.hr ⟨G q, 0, some cs.length⟩
  refine ⟨_, ⟨by omega, fun p hp he hlt => ?_, fun p hp he hLp => ?_, by rw [hT.1]; exact h1, ?_, fun r hr hLr hn u hu v hv => ?_, ⟨G, fun r hr hLr hsr hfr => ?_, fun r r' hr hr' h3 h4 h5 h6 => hGG r r' hr hr' h3 h4 (by omega) (by omega)⟩, M.old, M.defers, M.size⟩⟩
  · by_cases e : p = q
    · subst e; exact hL
    · by_cases hps : p < s
      · exact M.effL p hp he hps
      · have := hno p (by omega) (by omega); rw [he] at this; simp at this
  · rcases M.effR p hp he hLp with h | h
    · exact .inl (by omega)
    · exact .inr h
  · rw [hT.1]
    refine ⟨M.stp.ext.trans hx, M.stp.os, M.stp.tape, M.stp.output, M.stp.size, M.stp.keep, fun g hm => ?_⟩
    rcases h2 g hm with h | rfl
    · exact M.stp.own g h
    · exact .inr e8
  · by_cases e : r = q
    · subst e
      rw [e1] at hu; injection hu with hu; subst hu
      rw [hT.2] at hv
      simp [putE, lk] at hv
      subst hv
      exact ⟨_, e5, .ptr (f s).2.1.length 0 ⟨G r, 0, some cs.length⟩ (by simp [bind1])⟩
    · by_cases hc : s ≤ r ∧ fl r = true
      · have : (d r).eff = true := F.flE r hc.2
        have hrq : r < q := by
          by_cases h : r < q
          · exact h
          · exact absurd ⟨by omega, hc.2⟩ hn
        have := hno r hc.1 hrq
        rw [F.flE r hc.2] at this; simp at this
      · obtain ⟨v', hv', rr⟩ := M.put r hr hLr hc u hu v hv
        exact ⟨v', hv', rr.mono hx⟩
  · obtain ⟨t', cs', ty', x1, x2, x3, x4, x5, x6, x7, x8, x9⟩ := hG r hr hLr (by omega) hfr
    refine ⟨t', cs', ty', x1, x2, x3, x4, x5, x6, x7, x8, fun hm => ?_⟩
    rw [hT.1] at hm
    rcases h2 _ hm with h | h
    · exact x9 h
    · exact hGG r q hr hq hLr hL (by omega) hs hfr hf (by omega) h

omit Hs Bk in
theorem mid_norm {B0 : Map} {H0 : Heap} {w0 : World} {a0 : Act} {L : Nat → Prop} {a : Act} {w : World} : ∀ (k : Nat) {B : Map} {s : Nat}, ops.size - s ≤ k → Mid σ base ops.size d fl f B0 H0 w0 a0 L B s a w →
    ∃ B' s', Mid σ base ops.size d fl f B0 H0 w0 a0 L B' s' a w ∧ Norm ops.size d fl L s' := by
  intro k
  induction k with
  | zero =>
    intro B s hk M
    exact ⟨B, s, M, fun q hq _ hs _ => by omega⟩
  | succ k ih =>
    intro B s hk M
    by_cases hex : ∃ q, q < ops.size ∧ L q ∧ s ≤ q ∧ fl q = true ∧ ∀ e, e < q → (d e).eff = true → L e
    · -- the first of them
      have : ∃ q, (q < ops.size ∧ L q ∧ s ≤ q ∧ fl q = true ∧ ∀ e, e < q → (d e).eff = true → L e) ∧ ∀ x, x < q → ¬ (x < ops.size ∧ L x ∧ s ≤ x ∧ fl x = true ∧ ∀ e, e < x → (d e).eff = true → L e) := by
        obtain ⟨q0, hq0⟩ := hex
        have : ∀ m q, q ≤ m → (q < ops.size ∧ L q ∧ s ≤ q ∧ fl q = true ∧ ∀ e, e < q → (d e).eff = true → L e) → ∃ q, (q < ops.size ∧ L q ∧ s ≤ q ∧ fl q = true ∧ ∀ e, e < q → (d e).eff = true → L e) ∧ ∀ x, x < q → ¬ (x < ops.size ∧ L x ∧ s ≤ x ∧ fl x = true ∧ ∀ e, e < x → (d e).eff = true → L e) := by
          intro m
          induction m with
          | zero => intro q hm hq; exact ⟨q, hq, fun x hx => by omega⟩
          | succ m ihm =>
            intro q hm hq
            by_cases hx : ∃ x, x < q ∧ (x < ops.size ∧ L x ∧ s ≤ x ∧ fl x = true ∧ ∀ e, e < x → (d e).eff = true → L e)
            · obtain ⟨x, h1, h2⟩ := hx
              exact ihm x (by omega) h2
            · exact ⟨q, hq, fun x h1 h2 => hx ⟨x, h1, h2⟩⟩
        exact this q0 q0 (Nat.le_refl _) hq0
      obtain ⟨q, ⟨h1, h2, h3, h4, h5⟩, hmin⟩ := this
      have hno : ∀ e, s ≤ e → e < q → (d e).eff = false := by
        intro e he1 he2
        cases hee : (d e).eff with
        | false => rfl
        | true =>
          exfalso
          have hLe := h5 e he2 hee
          rcases M.effR e (by omega) hee hLe with h | h
          · omega
          · exact hmin e he2 ⟨by omega, hLe, he1, h, fun e' h6 h7 => h5 e' (by omega) h7⟩
      obtain ⟨B', M'⟩ := mid_advance F T M h1 h2 h3 h4 hno
      exact ih (by omega) M'
    · refine ⟨B, s, M, fun q h1 h2 h3 h4 => ?_⟩
      refine Classical.byContradiction fun hno => hex ⟨q, h1, h2, h3, h4, fun e he hee => Classical.byContradiction fun hLe => hno ⟨e, he, hee, hLe⟩⟩

/-- The next operation, wherever it comes. -/
theorem mid_step (Ef : ∀ p, p < ops.size → (d p).eff = isEff (d p).o.op) (hcall : CallOK P σ base call) {B0 : Map} {H0 : Heap} {w0 : World} {a0 : Act} (h0 : TR σ B0 (f 0).1 a0) {L : Nat → Prop} {B : Map} {s : Nat} {a : Act} {w : World} (M : Mid σ base ops.size d fl f B0 H0 w0 a0 L B s a w) (N : Norm ops.size d fl L s)
    {p : Nat} (hp : p < ops.size) (hL : ¬ L p) (hpre : ∀ q, q < ops.size → at_ q ∈ pre.getD (at_ p) [] → L q) (hclo : ∀ q, q < ops.size → L q → ∀ r, r < ops.size → at_ r ∈ pre.getD (at_ q) [] → L r)
    {o : Oper} (ho : ops[at_ p]? = some o) (hc : cOper P τ σ ops o = some (d p).o) (hd : ∀ t, o.dst = some t → t < a.tmps.size) {K : Act → World → Prop} {Q : Exit → Act → World → Prop}
    (hK0 : ∀ a' w' B' s', Mid σ base ops.size d fl f B0 H0 w0 a0 (fun q => L q ∨ q = p) B' s' a' w' → Norm ops.size d fl (fun q => L q ∨ q = p) s' → K a' w') :
    if Region.wanted o (yielded ops a.tmps) then o.wp P a w K Q else K (a.put o.dst undef) w := by
  have hK : ∀ a' w' B' s', Mid σ base ops.size d fl f B0 H0 w0 a0 (fun q => L q ∨ q = p) B' s' a' w' → K a' w' := fun a' w' B' s' M' => by
    obtain ⟨B'', s'', M'', N''⟩ := mid_norm F T _ (Nat.le_refl _) M'
    exact hK0 _ _ _ _ M'' N''
  obtain ⟨hop, hdst⟩ := cOper_op hc
  -- what is made already and not yet taken over is not used
  have notPend : ∀ q t, q < ops.size → L q → (d q).o.dst = some t → t ∈ operU (d p).o → ¬ (s ≤ q ∧ fl q = true) := by
    rintro q t hq hLq hqd hu ⟨hs, hf⟩
    obtain ⟨e, he1, he2, he3⟩ := N q hq hLq hs hf
    obtain ⟨t', ht', hU⟩ := F.flU q hq hf
    rw [hqd] at ht'; injection ht' with ht'; subst ht'
    exact he3 (hpre e (by omega) ((hU p hp hu).2 e (by omega) (by omega) he2))
  -- what the operation sees
  have ht : TR σ B ((operU (d p).o).filterMap fun t => (lk (f p).1 t).map fun v => (t, v)) a := by
    intro t v hv
    rw [lk_restrict] at hv
    split at hv
    · rename_i hu
      by_cases hex : ∃ q, q < ops.size ∧ (d q).o.dst = some t
      · obtain ⟨q, hq, hqd⟩ := hex
        have orig : (∀ r, r < ops.size → L r → (d r).o.dst ≠ some t) → (∀ r, r < p → (d r).o.dst ≠ some t) → ∃ v', a.tmps[t]? = some v' ∧ VR σ B v v' := by
          intro h1 h2
          rw [lk_before T (by omega) h2] at hv
          obtain ⟨v', hv', r⟩ := h0 t v hv
          exact ⟨v', by rw [M.old t h1]; exact hv', r.mono M.stp.ext⟩
        by_cases hqp : p = q
        · subst hqp
          refine orig (fun r hr hLr hrd => ?_) (fun r hr hrd => ?_)
          · by_cases e : r = p
            · subst e; exact hL hLr
            · exact F.dst p r hp hr (Ne.symm e) t hqd hrd
          · exact F.dst p r hp (by omega) (by omega) t hqd hrd
        · have hu2 := F.use p q hp hq hqp t hqd hu
          by_cases hlt : q < p
          · have hLq := hpre q hq (hu2.1 hlt)
            rw [lk_after F T hq hqd hlt (by omega)] at hv
            exact M.put q hq hLq (notPend q t hq hLq hqd hu) t hqd v hv
          · have hnL : ¬ L q := fun h => hL (hclo q hq h p hp (hu2.2 hlt))
            refine orig (fun r hr hLr hrd => ?_) (fun r hr hrd => ?_)
            · by_cases e : r = q
              · subst e; exact hnL hLr
              · exact F.dst q r hq hr (Ne.symm e) t hqd hrd
            · exact F.dst q r hq (by omega) (by omega) t hqd hrd
      · rw [lk_before T (by omega) (fun r hr hrd => hex ⟨r, by omega, hrd⟩)] at hv
        obtain ⟨v', hv', r⟩ := h0 t v hv
        exact ⟨v', by rw [M.old t (fun r hr _ hrd => hex ⟨r, hr, hrd⟩)]; exact hv', r.mono M.stp.ext⟩
    · simp at hv
  have hag : ∀ t ∈ operU (d p).o, lk ((operU (d p).o).filterMap fun t => (lk (f p).1 t).map fun v => (t, v)) t = lk (f p).1 t := fun t hu => by rw [lk_restrict, if_pos hu]
  have hwant := want_congr (o := (d p).o) (fun t hu => (hag t hu))
  -- the memory before and behind it
  have stay : (d p).eff = false → (∀ q, q < ops.size → (d q).eff = true → q < s → (L q ∨ q = p)) ∧ (∀ q, q < ops.size → (d q).eff = true → (L q ∨ q = p) → q < s ∨ fl q = true) := by
    intro he
    refine ⟨fun q hq hqe hlt => .inl (M.effL q hq hqe hlt), fun q hq hqe hh => ?_⟩
    rcases hh with h | h
    · exact M.effR q hq hqe h
    · subst h; rw [he] at hqe; simp at hqe
  have h0s : (d p).eff = true → p ≥ s := by
    intro he
    by_cases h : p < s
    · exact absurd (M.effL p hp he h) hL
    · omega
  have go : (d p).eff = true → (∀ q, q < p → (d q).eff = true → L q) → p ≥ s ∧ (∀ q, s ≤ q → q < p → (d q).eff = false) ∧ (∀ q, q < ops.size → (d q).eff = true → q < p + 1 → (L q ∨ q = p)) ∧ (∀ q, q < ops.size → (d q).eff = true → (L q ∨ q = p) → q < p + 1 ∨ fl q = true) := by
    intro he hall
    have h1 := h0s he
    refine ⟨h1, fun q hsq hqp => ?_, fun q hq hqe hlt => ?_, fun q hq hqe hh => ?_⟩
    · cases hqe : (d q).eff with
      | false => rfl
      | true =>
        exfalso
        have hLq := hall q hqp hqe
        rcases M.effR q (by omega) hqe hLq with h | h
        · omega
        · obtain ⟨e, e1, e2, e3⟩ := N q (by omega) hLq hsq h
          exact e3 (hall e (by omega) e2)
    · by_cases e : q = p
      · exact .inr e
      · exact .inl (hall q (by omega) hqe)
    · rcases hh with h | h
      · rcases M.effR q hq hqe h with h | h
        · exact .inl (by omega)
        · exact .inr h
      · exact .inl (by omega)
  have hnpe : (d p).eff = true → isPure (d p).o.op = false := by
    intro he
    have := Ef p hp
    rw [this] at he
    simp only [isEff, Bool.not_eq_true', Bool.or_eq_false_iff] at he
    exact he.1
  have hall0 : (d p).eff = true → fl p = false → ∀ q, q < p → (d q).eff = true → L q := by
    intro he hf q hq hqe
    rcases F.earlier p q hp (by omega) hq hqe (hnpe he) hf with h | ⟨h, _⟩
    · exact hpre q (by omega) h
    · rw [he] at h; simp at h
  -- behind it
  have fin : ∀ {v : Value} {v' : Value} {w' : World} {B' : Map} {s' : Nat}, (f (p + 1)).1 = putE (f p).1 (d p).o.dst v → s' ≤ ops.size → s ≤ s' → (∀ q, s ≤ q → q < s' → (d q).eff = true → q = p) → ((d p).eff = true → p < s') → (∀ q, q < ops.size → (d q).eff = true → q < s' → (L q ∨ q = p)) → (∀ q, q < ops.size → (d q).eff = true → (L q ∨ q = p) → q < s' ∨ fl q = true) →
      VR σ B' v v' → HR σ base B' (f s').2.1 w' → Stp B (f s).2.1 w B' (f s').2.1 w' → K (a.put o.dst v') w' := by
    intro v v' w' B' s' he hs' hss hone hps heff1 heff2 hv hr hst
    have tmpsNe : ∀ {q t : Nat}, q < ops.size → L q → (d q).o.dst = some t → (a.put o.dst v').tmps[t]? = a.tmps[t]? := by
      intro q t hq hLq hqd
      have hqp : p ≠ q := fun h => hL (h ▸ hLq)
      rw [← hdst]
      cases hpd : (d p).o.dst with
      | none => rfl
      | some x =>
        have : x ≠ t := fun h => F.dst p q hp hq hqp x hpd (by rw [hqd, h])
        simp [Act.put, Array.getElem?_setIfInBounds_ne this]
    obtain ⟨G, hG, hGG⟩ := M.pend
    have hback : ∀ q, q < ops.size → (L q ∨ q = p) → s' ≤ q → fl q = true → L q := by
      intro q hq hLq hsq hfq
      rcases hLq with h | h
      · exact h
      · subst h; have := hps (F.flE q hfq); omega
    refine hK _ w' B' s' ⟨hs', heff1, heff2, hr, M.stp.trans hst, fun q hq hLq hnp t hqd u hu => ?_, ⟨G, fun q hq hLq hsq hfq => ?_, fun q r hq hr hLq hLr h1 h2 h3 h4 => hGG q r hq hr (hback q hq hLq h1 h3) (hback r hr hLr h2 h4) (by omega) (by omega) h3 h4⟩, fun t hno => ?_, by rw [put_defers]; exact M.defers, by rw [put_size]; exact M.size⟩
    · by_cases hqe : q = p
      · subst hqe
        rw [he, hqd] at hu
        simp [putE, lk] at hu
        subst hu
        refine ⟨v', ?_, hv⟩
        rw [← hdst, hqd]
        simp [Act.put, hd t (by rw [← hdst, hqd])]
      · have hLq : L q := hLq.resolve_right hqe
        obtain ⟨u', hu', r⟩ := M.put q hq hLq (fun hc => by
          by_cases hx : s' ≤ q
          · exact hnp ⟨hx, hc.2⟩
          · exact hqe (hone q hc.1 (by omega) (F.flE q hc.2))) t hqd u hu
        exact ⟨u', by rw [tmpsNe hq hLq hqd]; exact hu', r.mono hst.ext⟩
    · have hLq := hback q hq hLq hsq hfq
      obtain ⟨t, cs, ty, x1, x2, x3, x4, x5, x6, x7, x8, x9⟩ := hG q hq hLq (by omega) hfq
      have hlt : G q < w.heap.size := (Array.getElem?_eq_some_iff.1 x6).1
      refine ⟨t, cs, ty, x1, x2, x3, x4, by rw [tmpsNe hq hLq x1]; exact x5, by rw [hst.keep _ hlt x9]; exact x6, x7, x8, fun hm => ?_⟩
      rcases hst.own _ hm with h | h
      · exact x9 h
      · omega
    · rw [← M.old t (fun q hq hLq => hno q hq (.inl hLq))]
      have := hno p hp (.inr rfl)
      rw [← hdst]
      cases hpd : (d p).o.dst with
      | none => rfl
      | some x =>
        have : x ≠ t := fun h => this (by rw [hpd, h])
        simp [Act.put, Array.getElem?_setIfInBounds_ne this]
  rcases T p hp with ⟨hw, v, hv, he⟩ | ⟨hw, hH, he⟩
  · -- it is carried out
    rw [← hwant] at hw
    rw [want_sound ht hc hw]
    simp only [if_true]
    have run : ∀ {H2 : Heap}, dval call (d p).o.op ((operU (d p).o).filterMap fun t => (lk (f p).1 t).map fun v => (t, v)) (f s).2.1 = some (v, H2) → ∀ s', s' ≤ ops.size → s ≤ s' → (∀ q, s ≤ q → q < s' → (d q).eff = true → q = p) → ((d p).eff = true → p < s') → (f s').2.1 = H2 → (∀ q, q < ops.size → (d q).eff = true → q < s' → (L q ∨ q = p)) → (∀ q, q < ops.size → (d q).eff = true → (L q ∨ q = p) → q < s' ∨ fl q = true) → o.wp P a w K Q := by
      intro H2 hrun s' hs' hss hone hps hH2 heff heff2
      refine op_wp hcall M.hr ht hop hrun fun v' w' B' hdone => ?_
      obtain ⟨r1, r2, r3⟩ := hdone
      subst hH2
      exact fin he hs' hss hone hps heff heff2 r1 r2 r3
    have hco : ∀ H, dval call (d p).o.op ((operU (d p).o).filterMap fun t => (lk (f p).1 t).map fun v => (t, v)) H = dval call (d p).o.op (f p).1 H := fun H => dval_congr fun t hu => hag t (by simp [operU, hu])
    cases heff : (d p).eff with
    | true =>
      by_cases hall : ∀ q, q < p → (d q).eff = true → L q
      · obtain ⟨h1, h2, h3, h4⟩ := go heff hall
        have hh := heap_range F T (s := s) (p := p) h1 (by omega) h2
        exact run (by rw [hco, ← hh]; exact hv) (p + 1) (by omega) (by omega) (fun q h5 h6 h7 => by
          by_cases e : q = p
          · exact e
          · have := h2 q h5 (by omega); rw [h7] at this; simp at this) (fun _ => by omega) rfl h3 h4
      · -- a variable that is made before its turn
        have hfl : fl p = true := by
          cases hf : fl p with
          | true => rfl
          | false => exact absurd (hall0 heff hf) hall
        have hps := h0s heff
        obtain ⟨⟨ty, hty⟩, _⟩ := F.flA p hfl
        obtain ⟨t, htd, _⟩ := F.flU p hp hfl
        have hoo : ops.getD (at_ p) default = o := by rw [Array.getD_eq_getD_getElem?, ho]; rfl
        rw [hoo] at hty
        have hgn : (d p).o.guard = none := by
          have h1 := (F.flA p hfl).2
          rw [hoo] at h1
          exact cOper_guard hc h1
        obtain ⟨z, hz, hk, hnew⟩ : ∃ z, zeroT P ty = some z ∧ constV 9 z = true ∧ (d p).o.op = .new z.cells.toList := by
          rw [hty] at hop
          have hop' : (cOp P τ σ (.alloc ty)).bind (fun r => if isCall r then none else some r) = some (d p).o.op := hop
          rw [Option.bind_eq_some_iff] at hop'
          obtain ⟨r, hr, hh⟩ := hop'
          have hr' : (zeroT P ty).bind (fun z => if constV 9 z then some (AOp.new z.cells.toList) else none) = some r := hr
          rw [Option.bind_eq_some_iff] at hr'
          obtain ⟨z, hz, hz2⟩ := hr'
          by_cases hk : constV 9 z = true
          · rw [if_pos hk] at hz2
            injection hz2 with hz2
            subst hz2
            have hh' : some (AOp.new z.cells.toList) = some (d p).o.op := hh
            injection hh' with hh'
            exact ⟨z, hz, hk, hh'.symm⟩
          · rw [if_neg hk] at hz2; simp at hz2
        have hrun : (execOp a.eval o).run P w = .ok (.value (.pointer (some ⟨w.heap.size, 0, none⟩))) { w with heap := w.heap.push (.cells ⟨z.cells.toList⟩ ty) } := by
          simp only [execOp, hty, Instr.alloc, newVar, newRow, Sem.run_bind, zeroT_run hz, Result.andThen_ok, run_newObj, Sem.run_pure]
        unfold Oper.wp
        rw [hrun, Oper.upon_value]
        obtain ⟨G, hG, hGG⟩ := M.pend
        have hkeep : ∀ g, g < w.heap.size → (w.heap.push (.cells ⟨z.cells.toList⟩ ty))[g]? = w.heap[g]? := fun g hg => by rw [Array.getElem?_push, if_neg (Nat.ne_of_lt hg)]
        have hr' : HR σ base B (f s).2.1 { w with heap := w.heap.push (.cells ⟨z.cells.toList⟩ ty) } := M.hr.besides (by simp) hkeep
        have hst : Stp B (f s).2.1 w B (f s).2.1 { w with heap := w.heap.push (.cells ⟨z.cells.toList⟩ ty) } := ⟨.refl _, rfl, rfl, rfl, by simp, fun g hg _ => hkeep g hg, fun g hm => .inl hm⟩
        have tmpsNe : ∀ {q t' : Nat}, q < ops.size → L q → (d q).o.dst = some t' → (a.put o.dst (.pointer (some ⟨w.heap.size, 0, none⟩))).tmps[t']? = a.tmps[t']? := by
          intro q t' hq hLq hqd
          have hqp : p ≠ q := fun h => hL (h ▸ hLq)
          rw [← hdst, htd]
          have : t ≠ t' := fun h => F.dst p q hp hq hqp t htd (by rw [hqd, h])
          simp [Act.put, Array.getElem?_setIfInBounds_ne this]
        have hmp : ∀ g, Mp B (f s).2.1 g → g < w.heap.size := by
          rintro g ⟨i, b, q, hi, hb, hq, rfl⟩
          obtain ⟨g, f', z', cs', ty', fr', e, _, hg, _⟩ := M.hr.rw i b hi hb
          rw [e] at hq; injection hq with hq; subst hq
          exact (Array.getElem?_eq_some_iff.1 hg).1
        refine hK _ _ B s ⟨M.sn, fun q hq hqe hlt => .inl (M.effL q hq hqe hlt), fun q hq hqe hh => ?_, hr', M.stp.trans hst, fun q hq hLq hnp t' hqd u hu => ?_, ⟨fun q => if q = p then w.heap.size else G q, fun q hq hLq hsq hfq => ?_, fun q r hq hr hLq hLr h1 h2 h3 h4 hne => ?_⟩, fun t' hno => ?_, by rw [put_defers]; exact M.defers, by rw [put_size]; exact M.size⟩
        · rcases hh with h | h
          · exact M.effR q hq hqe h
          · subst h; exact .inr hfl
        · by_cases hqe : q = p
          · subst hqe; exact absurd ⟨hps, hfl⟩ hnp
          · have hLq : L q := hLq.resolve_right hqe
            obtain ⟨u', hu', r⟩ := M.put q hq hLq hnp t' hqd u hu
            exact ⟨u', by rw [tmpsNe hq hLq hqd]; exact hu', r⟩
        · by_cases hqe : q = p
          · have e : (fun x => if x = p then w.heap.size else G x) q = w.heap.size := if_pos hqe
            rw [e]
            subst hqe
            refine ⟨t, z.cells.toList, ty, htd, hnew, hgn, fun B => (VR.const 9 z hk).cells, ?_, by simp, M.hr.big, M.stp.size, fun hm => by have := hmp _ hm; omega⟩
            rw [← hdst, htd]
            simp [Act.put, hd t (by rw [← hdst, htd])]
          · have e : (fun x => if x = p then w.heap.size else G x) q = G q := if_neg hqe
            rw [e]
            have hLq : L q := hLq.resolve_right hqe
            obtain ⟨t', cs, ty', x1, x2, x3, x4, x5, x6, x7, x8, x9⟩ := hG q hq hLq hsq hfq
            have hlt : G q < w.heap.size := (Array.getElem?_eq_some_iff.1 x6).1
            exact ⟨t', cs, ty', x1, x2, x3, x4, by rw [tmpsNe hq hLq x1]; exact x5, by rw [← x6]; exact hkeep _ hlt, x7, x8, x9⟩
        · have lt : ∀ x, x < ops.size → (L x ∨ x = p) → s ≤ x → fl x = true → x ≠ p → G x < w.heap.size := fun x hx hLx hsx hfx hxp => by
            obtain ⟨t', cs, ty', x1, x2, x3, x4, x5, x6, x7, x8, x9⟩ := hG x hx (hLx.resolve_right hxp) hsx hfx
            exact (Array.getElem?_eq_some_iff.1 x6).1
          show (if q = p then w.heap.size else G q) ≠ (if r = p then w.heap.size else G r)
          by_cases h5 : q = p
          · have h6 : ¬ r = p := fun h => hne (by omega)
            rw [if_pos h5, if_neg h6]
            have := lt r hr hLr h2 h4 h6; omega
          · by_cases h6 : r = p
            · rw [if_neg h5, if_pos h6]
              have := lt q hq hLq h1 h3 h5; omega
            · rw [if_neg h5, if_neg h6]
              exact hGG q r hq hr (hLq.resolve_right h5) (hLr.resolve_right h6) h1 h2 h3 h4 hne
        · rw [← M.old t' (fun q hq hLq => hno q hq (.inl hLq))]
          have := hno p hp (.inr rfl)
          rw [← hdst, htd]
          have : t ≠ t' := fun h => this (by rw [htd, h])
          simp [Act.put, Array.getElem?_setIfInBounds_ne this]
    | false =>
      have st := stay heff
      have hp0 : (d p).eff = true → p < s := fun h => by rw [heff] at h; simp at h
      have on0 : ∀ q, s ≤ q → q < s → (d q).eff = true → q = p := fun q h1 h2 => by omega
      rcases F.kind p hp with h | h | h
      · rw [heff] at h; simp at h
      · rw [dval_pure (.inl h)] at hv
        refine run (by rw [hco, dval_pure (.inl h)]; exact (pure_heap h (f s).2.1 hv).2) s M.sn (Nat.le_refl _) on0 hp0 rfl st.1 st.2
      · rw [dval_pure (.inr h)] at hv
        have hnp : isPure (d p).o.op = false := by
          cases hopp : (d p).o.op <;> rw [hopp] at h <;> first | (simp [isRead] at h; done) | rfl
        have same : (f s).2.1 = (f p).2.1 → o.wp P a w K Q := by
          intro hh
          have h1 := read_heap h hv
          exact run (H2 := (f s).2.1) (by rw [hco, dval_pure (.inr h), hh]; rw [h1] at hv; exact hv) s M.sn (Nat.le_refl _) on0 hp0 rfl st.1 st.2
        by_cases hsp : p < s
        · -- no effect between p and s
          refine same (heap_range F T (s := p) (p := s) (by omega) M.sn fun q h1 h2 => ?_)
          cases hqe : (d q).eff with
          | false => rfl
          | true =>
            by_cases e : q = p
            · subst e; rw [heff] at hqe; simp at hqe
            · have hsn := M.sn
              have hLq := M.effL q (by omega) hqe h2
              cases hfq : fl q with
              | false => exact absurd (hclo q (by omega) hLq p hp (F.later p q hp (by omega) (by omega) hqe hnp hfq)) hL
              | true =>
                rcases F.flR q p (by omega) hfq (by omega) heff hnp with h | ⟨e', h3, h4, h5, h6⟩
                · exact absurd (hclo q (by omega) hLq p hp h) hL
                · have hLe := M.effL e' (by omega) h5 (by omega)
                  exact absurd (hclo e' (by omega) hLe p hp (F.later p e' hp (by omega) h3 h5 hnp h6)) hL
        · by_cases hex : ∃ q, s ≤ q ∧ q < p ∧ (d q).eff = true
          · -- the first effect that is still to come
            obtain ⟨q, hq, hmin⟩ : ∃ q, (s ≤ q ∧ q < p ∧ (d q).eff = true) ∧ ∀ x, s ≤ x → x < q → (d x).eff = false := by
              obtain ⟨q0, hq0⟩ := hex
              have : ∀ m q, q ≤ m → (s ≤ q ∧ q < p ∧ (d q).eff = true) → ∃ q, (s ≤ q ∧ q < p ∧ (d q).eff = true) ∧ ∀ x, s ≤ x → x < q → (d x).eff = false := by
                intro m
                induction m with
                | zero => intro q hm hq; exact ⟨q, hq, fun x h1 h2 => by omega⟩
                | succ m ih =>
                  intro q hm hq
                  by_cases hx : ∃ x, s ≤ x ∧ x < q ∧ (d x).eff = true
                  · obtain ⟨x, h1, h2, h3⟩ := hx
                    exact ih x (by omega) ⟨h1, by omega, h3⟩
                  · refine ⟨q, hq, fun x h1 h2 => ?_⟩
                    cases hxe : (d x).eff with
                    | false => rfl
                    | true => exact absurd ⟨x, h1, h2, hxe⟩ hx
              exact this q0 q0 (Nat.le_refl _) hq0
            obtain ⟨h1, h2, h3⟩ := hq
            have hh := heap_range F T (s := s) (p := q) h1 (by omega) hmin
            have hnL : ¬ L q := fun hl => by
              rcases M.effR q (by omega) h3 hl with h | h
              · omega
              · obtain ⟨e, e1, e2, e3⟩ := N q (by omega) hl h1 h
                by_cases hes : e < s
                · exact e3 (M.effL e (by omega) e2 hes)
                · have := hmin e (by omega) e1; rw [e2] at this; simp at this
            have hfp : fl p = false := by
              cases hf : fl p with
              | false => rfl
              | true => have := F.flE p hf; rw [heff] at this; simp at this
            rcases F.earlier p q hp (by omega) h2 h3 hnp hfp with hin | ⟨_, hcnt⟩
            · exact absurd (hpre q (by omega) hin) hnL
            · rcases Bk p hp with hb | hb | ⟨v2, H2, hv2, hag2⟩
              · omega
              · rw [hwant, hb] at hw; simp at hw
              · rw [hv] at hv2; injection hv2 with hv2; injection hv2 with e1 e2; subst e1
                have hmem : (f q).2.1 ∈ (f p).2.2.take (d p).back := by
                  refine List.mem_iff_getElem?.2 ⟨cnt (fun x => (d x).eff) q p, ?_⟩
                  rw [List.getElem?_take, if_pos hcnt]
                  exact hist_at Hs h3 h2 (by omega)
                obtain ⟨H3, h4⟩ := again_mem hag2 _ hmem
                have h5 := read_heap h h4
                refine run (H2 := (f s).2.1) (by rw [hco, dval_pure (.inr h), ← hh]; rw [h5] at h4; exact h4) s M.sn (Nat.le_refl _) on0 hp0 rfl st.1 st.2
          · refine same (heap_range F T (s := s) (p := p) (by omega) (by omega) fun q h1 h2 => ?_).symm
            cases hqe : (d q).eff with
            | false => rfl
            | true => exact absurd ⟨q, h1, h2, hqe⟩ hex
  · -- it is passed over
    rw [← hwant] at hw
    rw [want_sound ht hc hw]
    simp only [Bool.false_eq_true, if_false]
    cases heff : (d p).eff with
    | true =>
      have hfp : fl p = false := by
        cases hf : fl p with
        | false => rfl
        | true =>
          have h1 := (F.flA p hf).2
          have hoo : ops.getD (at_ p) default = o := by rw [Array.getD_eq_getD_getElem?, ho]; rfl
          rw [hoo] at h1
          have h2 := cOper_guard hc h1
          rw [hwant] at hw
          unfold want at hw; rw [h2] at hw; simp at hw
      obtain ⟨h1, h2, h3, h4⟩ := go heff (hall0 heff hfp)
      have hh := heap_range F T (s := s) (p := p) h1 (by omega) h2
      have hh2 : (f (p + 1)).2.1 = (f s).2.1 := hH.trans hh
      exact fin (B' := B) (s' := p + 1) he (by omega) (by omega) (fun q h5 h6 h7 => by
          by_cases e : q = p
          · exact e
          · have := h2 q h5 (by omega); rw [h7] at this; simp at this) (fun _ => by omega) h3 h4 (.tuple' VRs.nil) (by rw [hh2]; exact M.hr) (by rw [hh2]; exact .refl _ _ _)
    | false => exact fin (B' := B) (s' := s) he M.sn (Nat.le_refl _) (fun q h1 h2 => by omega) (fun h => by rw [heff] at h; simp at h) (stay heff).1 (stay heff).2 (.tuple' VRs.nil) M.hr (.refl _ _ _)
end

end Go.Proofs.Ytejcabdejoameaa.AI

/- Regions, statements, functions. -/
namespace Go.Proofs.Ytejcabdejoameaa.AI
open Go

section
variable {P : Program} {τ σ : Nat → Nat} {base : Nat}
variable {call : Nat → List Value → Heap → Option (Value × Heap)}

theorem ready_spec {ops : Array Oper} {listed : Array Bool} {i : Nat} : i ∈ Region.ready .any ops listed ↔ i < ops.size ∧ listed.getD i true = false ∧ ∀ k ∈ direct (ops.getD i default), listed.getD k false = true := by
  simp only [Region.ready, List.mem_filter, List.mem_range, Bool.and_eq_true, Bool.not_eq_true', direct, List.mem_map, Array.mem_toList_iff]
  constructor
  · rintro ⟨hi, h1, h2⟩
    refine ⟨hi, h1, ?_⟩
    rw [Array.getElem?_eq_getElem hi] at h2
    simp only [zah, Option.getD_some, Array.all_eq_true'] at h2
    rintro k ⟨x, hx, rfl⟩
    have hx1 : x ∈ (ops[i]).after := by have := hx.1; simpa [Array.getD, hi] using this
    have := h2 x hx1
    simpa [hx.2] using this
  · rintro ⟨hi, h1, h2⟩
    refine ⟨hi, h1, ?_⟩
    rw [Array.getElem?_eq_getElem hi]
    simp only [zah, Option.getD_some, Array.all_eq_true']
    intro x hx
    cases hb : Region.binds .any x with
    | false => simp
    | true =>
      have := h2 x.on ⟨x, by simp [hb, Array.getD, hi, hx], rfl⟩
      simpa using this

theorem any_wp (hm : P.follows .mixedOrders = true) (hcall : CallOK P σ base call) {ops : Array Oper} {os : List AOper} (hos : cOpers P τ σ ops ops.toList = some os) {ord : List (Nat × Nat)}
    (hk : okD ops (preOf ops.toList) (ord.map (·.1)) (permD os ord) = true) {nt : Nat} (hdst : dstOk nt ops.toList = true) {B0 : Map} {H0 : Heap} {w0 : World} {a0 : Act} {e0 e' : Env} {H' : Heap}
    (hsz : nt ≤ a0.tmps.size) (h0 : TR σ B0 e0 a0) (hr0 : HR σ base B0 H0 { w0 with drawn := w0.drawn + 1 }) (h : aopsD call (permD os ord) [] e0 H0 = some (e', H')) {id : Nat} {Q : Exit → Act → World → Prop}
    (hQ : ∀ a' w' B', TR σ B' e' a' → HR σ base B' H' w' → Stp B0 H0 { w0 with drawn := w0.drawn + 1 } B' H' w' → a'.defers = a0.defers → a'.tmps.size = a0.tmps.size → Q .normal a' w') : (Code.region id ops true).wp P Q a0 w0 := by
  obtain ⟨hl1, hl2, F⟩ := okD_facts hk
  obtain ⟨f, f0, f1, f2, f3⟩ := trace h
  generalize hpre : preOf ops.toList = pre at F hk
  generalize hds : permD os ord = ds at *
  generalize hFL : isFl ops pre (ord.map (·.1)) ds = FL at F
  rw [List.length_map] at hl1
  generalize hA : (fun (p : Nat) => (ord.map (·.1)).getD p 0) = A at F
  generalize hD : (fun (p : Nat) => ds.getD p ⟨⟨none, none, .new []⟩, false, 0⟩) = D at F
  -- places
  have place : ∀ p, p < ops.size → ∃ ao o, ds[p]? = some ⟨ao, isEff ao.op, (ord.getD p (0, 0)).2⟩ ∧ ops[A p]? = some o ∧ cOper P τ σ ops o = some ao := by
    intro p hp
    have hlen : (permD os ord).length = ord.length := by rw [hds]; omega
    have hop : ord[p]? = some (ord.getD p (0, 0)) := by simp [show p < ord.length by omega]
    obtain ⟨ao, h1, h2⟩ := permD_get hlen p (ord.getD p (0, 0)).1 (ord.getD p (0, 0)).2 hop
    obtain ⟨o, h3, h4⟩ := cOpers_get hos _ ao h1
    refine ⟨ao, o, by rw [← hds]; exact h2, ?_, h4⟩
    have : A p = (ord.getD p (0, 0)).1 := by rw [← hA]; simp [show p < ord.length by omega]
    rw [this]
    simpa using h3
  have dat : ∀ p, p < ops.size → ds[p]? = some (D p) := by
    intro p hp; rw [← hD]; simp [show p < ds.length by omega]
  have T : ∀ p, p < ops.size → PutV call (D p) (f p).1 (f p).2.1 (f (p + 1)).1 (f (p + 1)).2.1 := fun p hp => step_putV (f3 p _ (dat p hp)).1
  have Hs : ∀ p, p < ops.size → (f (p + 1)).2.2 = if (D p).eff then (f p).2.1 :: (f p).2.2 else (f p).2.2 := fun p hp => (f3 p _ (dat p hp)).2.1
  have Bk := fun p (hp : p < ops.size) => (f3 p _ (dat p hp)).2.2
  have Ef : ∀ p, p < ops.size → (D p).eff = isEff (D p).o.op := by
    intro p hp
    obtain ⟨ao, o, h1, _⟩ := place p hp
    have := dat p hp
    rw [h1] at this; injection this with this
    rw [← this]
  rw [hl2] at f1 f2
  refine wp_region_any hm ?_
  generalize hw1 : ({ w0 with drawn := w0.drawn + 1 } : World) = w1 at *
  -- the induction
  have key : ∀ (fuel : Nat) (listed : Array Bool) (a : Act) (w : World), listed.size = ops.size → ((List.range ops.size).filter fun i => !listed.getD i true).length ≤ fuel →
      (∃ B s, Mid σ base ops.size D FL f B0 H0 w1 a0 (fun p => listed.getD (A p) false = true) B s a w ∧ Norm ops.size D FL (fun p => listed.getD (A p) false = true) s) →
      (∀ i, i < ops.size → listed.getD i false = true → ∀ k ∈ pre.getD i [], listed.getD k false = true) → wpAny P .any ops Q fuel listed a w := by
    have fin : ∀ (listed : Array Bool) (a : Act) (w : World), listed.size = ops.size → Region.ready .any ops listed = [] →
        (∃ B s, Mid σ base ops.size D FL f B0 H0 w1 a0 (fun p => listed.getD (A p) false = true) B s a w ∧ Norm ops.size D FL (fun p => listed.getD (A p) false = true) s) → Q .normal a w := by
      rintro listed a w hls hrd ⟨B, s, M, N⟩
      have all : ∀ p, p < ops.size → listed.getD (A p) false = true := by
        intro p
        induction p using Nat.strongRecOn with
        | _ p ih =>
          intro hp
          cases hb : listed.getD (A p) false with
          | true => rfl
          | false =>
            have hlt := F.lt p hp
            have : A p ∈ Region.ready .any ops listed := ready_spec.2 ⟨hlt, by
              simp only [Array.getD, hls, hlt, dif_pos] at hb ⊢; exact hb, fun k hk => by
              obtain ⟨q, hq1, hq2, hq3⟩ := F.ord p hp k hk
              rw [← hq3]; exact ih q hq1 hq2⟩
            rw [hrd] at this; simp at this
      have hh : (f ops.size).2.1 = (f s).2.1 := heap_range F T M.sn (Nat.le_refl _) fun q h1 h2 => by
        cases hqe : (D q).eff with
        | false => rfl
        | true =>
          exfalso
          rcases M.effR q h2 hqe (all q h2) with h | h
          · omega
          · obtain ⟨e, e1, e2, e3⟩ := N q h2 (all q h2) h1 h
            exact e3 (all e (by omega))
      refine hQ a w B (fun t v hv => ?_) (by rw [← f2, hh]; exact M.hr) (by rw [← f2, hh]; exact M.stp) M.defers M.size
      rw [← f1] at hv
      by_cases hex : ∃ q, q < ops.size ∧ (D q).o.dst = some t
      · obtain ⟨q, hq, hqd⟩ := hex
        rw [lk_after F T hq hqd hq (Nat.le_refl _)] at hv
        exact M.put q hq (all q hq) (fun hc => by
          obtain ⟨e, e1, e2, e3⟩ := N q hq (all q hq) hc.1 hc.2
          exact e3 (all e (by omega))) t hqd v hv
      · rw [lk_before T (Nat.le_refl _) (fun r hr hrd => hex ⟨r, hr, hrd⟩), f0] at hv
        obtain ⟨v', hv', r⟩ := h0 t v hv
        exact ⟨v', by rw [M.old t (fun r hr _ hrd => hex ⟨r, hr, hrd⟩)]; exact hv', r.mono M.stp.ext⟩
    intro fuel
    induction fuel with
    | zero =>
      intro listed a w hls hcnt hM hclo
      have hrd : Region.ready .any ops listed = [] := by
        cases hr : Region.ready .any ops listed with
        | nil => rfl
        | cons i r =>
          have hi : i ∈ Region.ready .any ops listed := by rw [hr]; simp
          obtain ⟨h1, h2, _⟩ := ready_spec.1 hi
          have : i ∈ (List.range ops.size).filter fun i => !listed.getD i true := by simp only [List.mem_filter, List.mem_range]; exact ⟨h1, by rw [h2]; rfl⟩
          have := List.length_pos_of_mem this
          omega
      exact ⟨hrd, fin listed a w hls hrd hM⟩
    | succ fuel ih =>
      intro listed a w hls hcnt hM hclo
      refine ⟨fun hrd => fin listed a w hls hrd hM, fun i hi => ?_⟩
      obtain ⟨hin, hun, hdir⟩ := ready_spec.1 hi
      obtain ⟨p, hp, rfl⟩ := F.sur i hin
      obtain ⟨B, s, M, N⟩ := hM
      obtain ⟨ao, o, e1, e2, e3⟩ := place p hp
      have ed : D p = ⟨ao, isEff ao.op, (ord.getD p (0, 0)).2⟩ := by
        have := dat p hp; rw [e1] at this; injection this with this; exact this.symm
      have hnl : ¬ listed.getD (A p) false = true := by
        simp only [Array.getD, hls, hin, dif_pos] at hun ⊢; rw [hun]; simp
      have hpre2 : ∀ k ∈ pre.getD (A p) [], listed.getD k false = true := by
        intro k hk
        rcases F.just _ hin k hk with h | ⟨x, hx, hkx⟩
        · exact hdir k h
        · have hxl := hdir x hx
          have hxn : x < ops.size := by
            simp only [Array.getD] at hxl
            split at hxl
            · omega
            · simp at hxl
          exact hclo x hxn hxl k hkx
      have hset : ∀ q, (listed.setIfInBounds (A p) true).getD q false = true ↔ (listed.getD q false = true ∨ q = A p) := by
        intro q
        simp only [Array.getD_eq_getD_getElem?]
        by_cases hq : q = A p
        · subst hq; simp [hls, hin]
        · rw [Array.getElem?_setIfInBounds_ne (Ne.symm hq)]; simp [hq]
      unfold wpOp
      rw [e2]
      simp only
      have hd : ∀ t, o.dst = some t → t < a.tmps.size := by
        intro t ht
        rw [M.size]
        have := List.all_eq_true.1 hdst o (by have := List.mem_of_getElem? (show ops.toList[A p]? = some o by simpa using e2); exact this)
        rw [ht] at this
        exact Nat.lt_of_lt_of_le (of_decide_eq_true this) hsz
      have go := mid_step F T Hs Bk Ef hcall (by rw [f0]; exact h0) M N hp hnl (fun q hq hin2 => hpre2 _ hin2)
        (fun q hq hlq r hr hin2 => hclo _ (F.lt q hq) hlq _ hin2) e2 (by rw [ed]; exact e3) hd (Q := Q) (K := wpAny P .any ops Q fuel (listed.setIfInBounds (A p) true))
        (fun a' w' B' s' M' N' => ih _ a' w' (by simpa using hls) (by
            have hmem : A p ∈ List.range ops.size := List.mem_range.2 hin
            have := filter_lt (p := fun i => !listed.getD i true) (q := fun i => !(listed.setIfInBounds (A p) true).getD i true) (fun y hy => by
              simp only [Array.getD_eq_getD_getElem?] at hy ⊢
              by_cases hq : y = A p
              · subst hq; simp [hls, hin] at hy
              · rw [Array.getElem?_setIfInBounds_ne (Ne.symm hq)] at hy; exact hy) hmem (by rw [hun]; rfl) (by simp only [Array.getD_eq_getD_getElem?]; simp [hls, hin])
            omega)
          ⟨B', s', by
            have : (fun q => (listed.setIfInBounds (A p) true).getD (A q) false = true) = (fun q => listed.getD (A q) false = true ∨ A q = A p) := by
              funext q; exact propext (hset _)
            rw [this]
            have same : ∀ q, q < ops.size → ((listed.getD (A q) false = true ∨ A q = A p) ↔ (listed.getD (A q) false = true ∨ q = p)) := fun q hq =>
              or_congr Iff.rfl ⟨fun he => by by_cases hqp : q = p; exact hqp; exact absurd he (F.inj q p hq hp hqp), fun he => by rw [he]⟩
            refine ⟨⟨M'.sn, fun q hq hqe hlt => (same q hq).2 (M'.effL q hq hqe hlt), fun q hq hqe hL => M'.effR q hq hqe ((same q hq).1 hL), M'.hr, M'.stp, fun q hq hlq => M'.put q hq ((same q hq).1 hlq), ?_,
              fun t hno => M'.old t fun q hq hlq => hno q hq ((same q hq).2 hlq), M'.defers, M'.size⟩, fun q hq hlq hsq hfq => ?_⟩
            · obtain ⟨G, g1, g2⟩ := M'.pend
              exact ⟨G, fun q hq hlq => g1 q hq ((same q hq).1 hlq), fun q r hq hr hlq hlr => g2 q r hq hr ((same q hq).1 hlq) ((same r hr).1 hlr)⟩
            · obtain ⟨e, e1, e2, e3⟩ := N' q hq ((same q hq).1 hlq) hsq hfq
              exact ⟨e, e1, e2, fun h => e3 ((same e (by omega)).1 h)⟩⟩
          (fun j hj hlj k hk => by
            rcases (hset j).1 hlj with h | rfl
            · exact (hset k).2 (.inl (hclo j hj h k hk))
            · exact (hset k).2 (.inl (hpre2 k hk))))
      split at go
      · rename_i hw; rw [if_pos hw]; exact .inl go
      · rename_i hw; rw [if_neg hw]; exact go
  refine key ops.size (Array.replicate ops.size false) a0 w1 (by simp) (Nat.le_trans (List.length_filter_le _ _) (by simp)) ⟨B0, 0, ?_⟩ (fun i hi h => by simp [Array.getD, hi] at h)
  have hno : ∀ p : Nat, ¬ (Array.replicate ops.size false).getD p false = true := fun p => by simp only [Array.getD]; split <;> simp
  exact ⟨⟨Nat.zero_le _, fun p _ _ h => by omega, fun p _ _ h => absurd h (hno _), by rw [f0]; exact hr0, by rw [f0]; exact .refl _ _ _, fun q _ h => absurd h (hno _), ⟨fun _ => 0, fun q _ h => absurd h (hno _), fun q r _ _ h => absurd h (hno _)⟩, fun _ _ => rfl, rfl, rfl⟩, fun q _ h => absurd h (hno _)⟩

end
end Go.Proofs.Ytejcabdejoameaa.AI

