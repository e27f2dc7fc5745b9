/- From the program's code to the interpreter's: types resolved once. -/
import Derived.Test.YtlbhbjaimcinbaaAI0
namespace Go.Proofs.Ytlbhbjaimcinbaa.AI
open Go

section
variable (P : Program) (τ σ : Nat → Nat)

def cArg : Operand → Option Arg
  | .tmp t => some (.t t)
  | .const v => if constV 9 v then some (.c v) else none
  | .func f => if σ (τ f) = f then some (.f (τ f)) else none
  | .global _ => none

def cArgs : List Operand → Option (List Arg)
  | [] => some []
  | a :: r => (cArg τ σ a).bind fun a => (cArgs r).bind fun r => some (a :: r)

def cOpt : Option Operand → Option (Option Arg)
  | none => some none
  | some a => (cArg τ σ a).map some

def isAggT (t : TypeId) : Option Bool :=
  match P.underlying t with
  | some (.struct _) | some (.array _ _) => some true
  | some _ => some false
  | none => none

def szT (t : TypeId) : Option Nat := (P.info? t).map (·.size)

/-- None: one cell. -/
def shT (t : TypeId) : Option (Option Nat) :=
  match isAggT P t with
  | some true => (szT P t).map some
  | some false => some none
  | none => none

def zeroT (t : TypeId) : Option Value := (P.info? t).bind (·.zero)

def tysF (f : TypeId → Option (List Ty)) : Nat → List Field → Option (List Ty)
  | _, [] => some []
  | n, fd :: r => if fd.name = "_" ∨ fd.offset ≠ n then none else (f fd.type).bind fun a => (shT P fd.type).bind fun sh => if a.length = sh.getD 1 then (tysF f (n + a.length) r).map (a ++ ·) else none

def tysOf : Nat → TypeId → Option (List Ty)
  | 0, _ => none
  | d + 1, t => match P.underlying t with
    | some .bool => some [.bool]
    | some (.int _) => some [.int]
    | some .string => some [.str]
    | some (.struct fs) => if P.stoodInHeld t = false then tysF P (tysOf d) 0 fs.toList else none
    | _ => none

def cParts (place : Nat → Option (Nat × Nat)) : List (Nat × Operand) → Option (List (Nat × Nat × Arg))
  | [] => some []
  | (i, x) :: r => (place i).bind fun (o, s) => (cArg τ σ x).bind fun a => (cParts place r).bind fun r => some ((o, s, a) :: r)

def cOp (op : Op) : Option AOp :=
  match op with
  | .move x | .assign x => (cArg τ σ x).map .mov
  | .pick c a b => (cArg τ σ c).bind fun c => (cArg τ σ a).bind fun a => (cArg τ σ b).bind fun b => some (.pick c a b)
  | .binOp op t x y _ => (cArg τ σ x).bind fun x => (cArg τ σ y).bind fun y =>
      match P.underlying t, op with
      | some (.int _), _ => some (.bin op x y)
      | some .string, _ => some (.bin op x y)
      | some .bool, .eql => some (.eqb false x y)
      | some .bool, .neq => some (.eqb true x y)
      | some (.pointer _), .eql => some (.eqp false x y)
      | some (.pointer _), .neq => some (.eqp true x y)
      | some (.struct _), .eql => if P.eqGuardType P.depth t = false then (tysOf P 9 t).map fun tys => .eqs false tys x y else none
      | some (.struct _), .neq => if P.eqGuardType P.depth t = false then (tysOf P 9 t).map fun tys => .eqs true tys x y else none
      | _, _ => none
  | .unOp op _ x => (cArg τ σ x).map (.un op)
  | .convert s d x => (cArg τ σ x).bind fun a =>
      match P.underlying s, P.underlying d with
      | some (.int _), some (.int k) => some (.cvI k a)
      | some (.int _), some .string => some (.cvIS a)
      | some .string, some .string => some (.cvSS a)
      | some .string, some (.slice e) => match P.underlying e with
        | some (.int .u8) => some (.cvSB a)
        | _ => none
      | some (.slice e), some .string => match P.underlying e with
        | some (.int .u8) => some (.cvBS a)
        | _ => none
      | _, _ => none
  | .load t a => (cArg τ σ a).bind fun a => (shT P t).bind fun n => if n = some 0 then none else some (.load n a)
  | .store t a x => (cArg τ σ a).bind fun a => (cArg τ σ x).bind fun x => (szT P t).bind fun n => if n = 0 then none else some (.store n a x)
  | .nilCheck x => (cArg τ σ x).map .nilck
  | .fieldAddr s x f => match P.underlying s with
    | some (.struct fs) => (fs[f]?).bind fun fd => (szT P fd.type).bind fun n => if n = 0 then none else (cArg τ σ x).map (.faddr fd.offset)
    | _ => none
  | .indexAddr t x i => (cArg τ σ x).bind fun x => (cArg τ σ i).bind fun i =>
      match P.underlying t with
      | some (.array n e) => (szT P e).bind fun sz => if sz = 0 then none else some (.iaddrA n sz x i)
      | some (.slice e) => (szT P e).bind fun sz => if sz = 0 then none else some (.iaddrS sz x i)
      | _ => none
  | .index t x i => (cArg τ σ x).bind fun x => (cArg τ σ i).bind fun i =>
      match P.underlying t with
      | some (.array n e) => (shT P e).bind fun sh => (szT P e).bind fun sz => if sz = 0 ∨ sz ≠ sh.getD 1 then none else some (.idxA n sh x i)
      | some .string => some (.idxS x i)
      | _ => none
  | .field t x f => match P.underlying t with
    | some (.struct fs) => (fs[f]?).bind fun fd => (shT P fd.type).bind fun sh => (cArg τ σ x).map (.fld fd.offset sh)
    | _ => none
  | .extract x i => (cArg τ σ x).map (.ext i)
  | .alloc t => (zeroT P t).bind fun z => if constV 9 z then some (.new z.cells.toList) else none
  | .box _ x => (cArg τ σ x).map .box
  | .build t parts => (zeroT P t).bind fun z => if constV 9 z then
      match P.underlying t with
      | some (.struct fs) => (fs.toList.mapM fun f => (szT P f.type).map fun n => (f.offset, n)).bind fun pl => (cParts τ σ (pl[·]?) parts.toList).map (.build z.cells.toList)
      | some (.array _ e) => (szT P e).bind fun sz => (cParts τ σ (fun i => some (i * sz, sz)) parts.toList).map (.build z.cells.toList)
      | _ => none
      else none
  | .buildSlice t len parts => match P.underlying t with
    | some (.slice e) => (szT P e).bind fun sz => (zeroT P e).bind fun z => if constV 9 z ∧ len * sz ≤ 10000 ∧ z.cells.size = sz ∧ 0 < sz then
        (cParts τ σ (fun i => some (i * sz, sz)) parts.toList).map (.buildS sz len (List.replicate len z.cells.toList).flatten) else none
    | _ => none
  | .makeSlice t l c => match P.underlying t with
    | some (.slice e) => (P.info? e).bind fun i => (zeroT P e).bind fun z => if constV 9 z ∧ z.cells.size = i.size ∧ 0 < i.size then
        (cArg τ σ l).bind fun l => (cArg τ σ c).bind fun c => some (.mkS i.bytes z.cells.toList l c) else none
    | _ => none
  | .slice t x lo hi mx => (cArg τ σ x).bind fun x => (cOpt τ σ lo).bind fun lo => (cOpt τ σ hi).bind fun hi => (cOpt τ σ mx).bind fun mx =>
      match P.underlying t with
      | some .string => if mx.isNone then some (.slS x lo hi) else none
      | some (.slice e) => (szT P e).bind fun sz => if sz = 0 then none else some (.slL sz x lo hi mx)
      | some (.array n e) => (szT P e).bind fun sz => if mx.isNone ∧ sz ≠ 0 then some (.slA n sz x lo hi) else none
      | _ => none
  | .makeFunc (.func f) first captured => (cArgs τ σ first.toList).bind fun a => (cArgs τ σ captured.toList).bind fun b => if σ (τ f) = f then some (.mkF (τ f) a b) else none
  | .call { callee := .builtin b, args, argTypes } => (cArgs τ σ args.toList).bind fun as =>
      match b, as, argTypes.toList.map P.underlying with
      | .len, [x], [some .string] => some (.lenS x)
      | .len, [x], [some (.slice _)] => some (.lenL x)
      | .min, xs, _ => some (.minI xs)
      | .max, xs, _ => some (.maxI xs)
      | .append, [d, s], [some (.slice e), some (.slice e')] => (P.info? e).bind fun i => (szT P e').bind fun sz' => if i.size = 0 ∨ i.size ≠ sz' ∨ i.bytes = 0 then none else (zeroT P e).bind fun z => if z.cells.size = i.size then some (.app i.size i.bytes d s) else none
      | .append, [d, s], [some (.slice e), some .string] => (P.info? e).bind fun i => if i.size = 1 ∧ i.bytes ≠ 0 then (zeroT P e).bind fun z => if z.cells.size = 1 then some (.app i.size i.bytes d s) else none else none
      | .copy, [d, s], [some (.slice e), _] => (szT P e).bind fun sz => if sz = 0 then none else some (.copy sz d s)
      | _, _, _ => none
  | _ => none

def isCall : AOp → Bool
  | .call .. | .callv .. => true
  | _ => false

def cOpA (op : Op) : Option AOp :=
  match op with
  | .call { callee := .value (.func f), args, .. } => if σ (τ f) = f then (cArgs τ σ args.toList).map (.call (τ f)) else none
  | .call { callee := .value x, args, .. } => (cArg τ σ x).bind fun x => (cArgs τ σ args.toList).map (.callv x)
  | op => (cOp P τ σ op).bind fun r => if isCall r then none else some r

def cOper (ops : Array Oper) (o : Oper) : Option AOper :=
  (cOpA P τ σ o.op).bind fun op =>
  match o.guard with
  | none => some ⟨o.dst, none, op⟩
  | some (j, b) => match (ops[j]?).bind (·.dst) with
    | some t => some ⟨o.dst, some (t, b), op⟩
    | none => none

def cOpers (ops : Array Oper) : List Oper → Option (List AOper)
  | [] => some []
  | o :: r => (cOper P τ σ ops o).bind fun o => (cOpers ops r).bind fun r => some (o :: r)

/-- Operations that come to no memory. -/
def isPure : AOp → Bool
  | .mov _ | .pick .. | .bin .. | .eqs .. | .eqp .. | .eqb .. | .un .. | .cvI .. | .cvIS _ | .cvSS _ | .nilck _ | .faddr .. | .iaddrS .. | .iaddrA .. | .idxS .. | .idxA .. | .fld .. | .ext .. | .build .. | .slS .. | .slL .. | .mkF .. | .lenS _ | .lenL _ | .minI _ | .maxI _ => true
  | _ => false

/-- Operations that read memory alone. -/
def isRead : AOp → Bool
  | .load .. | .cvBS _ | .slA .. => true
  | _ => false

def argU : Arg → List Nat
  | .t n => [n]
  | _ => []
def optU : Option Arg → List Nat
  | some a => argU a
  | none => []
def opU : AOp → List Nat
  | .mov x | .un _ x | .cvI _ x | .cvIS x | .cvSS x | .cvSB x | .cvBS x | .load _ x | .nilck x | .faddr _ x | .fld _ _ x | .ext _ x | .box x | .lenS x | .lenL x => argU x
  | .pick c a b => argU c ++ argU a ++ argU b
  | .bin _ x y | .eqs _ _ x y | .eqp _ x y | .eqb _ x y | .store _ x y | .iaddrS _ x y | .iaddrA _ _ x y | .idxS x y | .idxA _ _ x y | .mkS _ _ x y | .app _ _ x y | .copy _ x y => argU x ++ argU y
  | .new _ => []
  | .build _ ps | .buildS _ _ _ ps => ps.flatMap fun x => argU x.2.2
  | .slS x a b | .slA _ _ x a b => argU x ++ optU a ++ optU b
  | .slL _ x a b c => argU x ++ optU a ++ optU b ++ optU c
  | .mkF _ a b => (a ++ b).flatMap argU
  | .minI xs | .maxI xs | .call _ xs => xs.flatMap argU
  | .callv f xs => argU f ++ xs.flatMap argU
def operU (o : AOper) : List Nat := opU o.op ++ (match o.guard with | some (t, _) => [t] | none => [])

/-- The operations that an operation waits for. -/
def direct (o : Oper) : List Nat := (o.after.toList.filter (Region.binds .any)).map (·.on)

def preOf (ops : List Oper) : List (List Nat) :=
  ops.foldl (fun acc o => acc ++ [(direct o ++ (direct o).flatMap fun k => acc.getD k []).eraseDups]) []

/-- How many effects stand between two places. -/
def cnt (eff : Nat → Bool) (q : Nat) : Nat → Nat
  | 0 => 0
  | p + 1 => cnt eff q p + if q < p ∧ eff p = true then 1 else 0

/-- The order in which the interpreter takes a region whose order is open: any linear order serves that this test lets by. -/
def okD (ops : Array Oper) (pre : List (List Nat)) (ord : List Nat) (ds : List DOper) : Bool :=
  let n := ops.size
  let R := List.range n
  let at_ (p : Nat) : Nat := ord.getD p 0
  let op_ (p : Nat) : DOper := ds.getD p ⟨⟨none, none, .new []⟩, false, 0⟩
  let pr (i : Nat) : List Nat := pre.getD i []
  decide (ord.length = n) && decide (ds.length = n) && (R.all fun p => decide (at_ p < n)) && (R.all fun i => ord.contains i) &&
  (R.all fun i => (pr i).all fun k => (direct (ops.getD i default)).contains k || (direct (ops.getD i default)).any fun d => (pr d).contains k) &&
  (R.all fun p => (direct (ops.getD (at_ p) default)).all fun k => R.any fun q => decide (q < p) && decide (at_ q = k)) &&
  (R.all fun p => R.all fun q => decide (p = q) || (decide (at_ p ≠ at_ q) && ((op_ p).o.dst.isNone || decide ((op_ p).o.dst ≠ (op_ q).o.dst)) &&
    (match (op_ q).o.dst with
      | some t => !(operU (op_ p).o).contains t || (if q < p then (pr (at_ p)).contains (at_ q) else (pr (at_ q)).contains (at_ p))
      | none => true) &&
    (decide (q ≤ p) || !(op_ q).eff || isPure (op_ p).o.op || (pr (at_ q)).contains (at_ p)) &&
    (decide (p ≤ q) || !(op_ q).eff || isPure (op_ p).o.op || (pr (at_ p)).contains (at_ q) || (!(op_ p).eff && decide (cnt (fun x => (op_ x).eff) q p < (op_ p).back))))) &&
  (R.all fun p => (op_ p).eff || isPure (op_ p).o.op || isRead (op_ p).o.op)

variable (live : Nat → List Nat) (ordr : Nat → List (Nat × Nat)) (nt : Nat)

def dstOk (ops : List Oper) : Bool := ops.all fun o => match o.dst with | some t => decide (t < nt) | none => true

/-- Does an operation change memory? -/
def isEff (o : AOp) : Bool := !(isPure o || isRead o)

def permD (os : List AOper) : List (Nat × Nat) → List DOper
  | [] => []
  | (i, back) :: r => match os[i]? with
    | some o => ⟨o, isEff o.op, back⟩ :: permD os r
    | none => permD os r

def comp : Code → Option ACode
  | .skip => some .skip
  | .ret => some .ret
  | .exit id => some (.exit id)
  | .seq a b => (comp a).bind fun a => (comp b).bind fun b => some (.seq a b)
  | .cond c a b => (cArg τ σ c).bind fun c => (comp a).bind fun a => (comp b).bind fun b => some (.cond c a b)
  | .block id a => (comp a).map (.block id)
  | .loop a => (comp a).map .loop
  | .region id ops draw => (cOpers P τ σ ops ops.toList).bind fun os =>
    if dstOk nt ops.toList then
      if draw then
        let ord := ordr id
        let ds := permD os ord
        if okD ops (preOf ops.toList) (ord.map (·.1)) ds then some (.regd ds (live id)) else none
      else some (.reg os (live id))
    else none
  | _ => none

def cRes : List ResultVar → Option (List ARes)
  | [] => some []
  | .tmp t :: r => (cRes r).map (.tmp t :: ·)
  | .cell a t :: r => (shT P t).bind fun n => if n = some 0 then none else (cRes r).map (.cell a n :: ·)

def compF (fn : Func) (trunc iso : Bool) : Option AFn :=
  if fn.name == "runtime.NumGoroutine" then none else
  (fn.body).bind fun c => (comp P τ σ live ordr fn.ntmps c).bind fun b => (cRes P fn.results.toList).map fun r => ⟨fn.ntmps, b, r, trunc, iso⟩
end

end Go.Proofs.Ytlbhbjaimcinbaa.AI
