/- The statement about the solutions that are made out of bodies (UnifyMakes) holds for every input. Here: The abstract interpreter: values, stores, operations, code. No world, no memory. The abstract interpreter: operations, code, one step of the semantics, the fuelled semantics. The semantics without fuel: the limit of the fuelled ones, and its equations. From the loaded program's code to abstract code. What is not taken becomes 'bad', at which no run goes on. -/
import GoSem.Step
import GoSem.Core.Layout

set_option linter.unusedVariables false
set_option linter.unusedSimpArgs false
set_option linter.unnecessarySimpa false

/-! The abstract interpreter: values, stores, operations, code. No world, no memory. -/
namespace Go.Abs

/-- Pure data. -/
inductive D where
  | int (k : IntKind) (n : Int)
  | bool (b : Bool)
  | str (s : List UInt8)
  | list (z : Nat) (xs : List D)
  | agg (cs : List D)
  | tup (vs : List D)
  | ref (x : D)
  | nilP
  | func (f : Nat) (caps : List D)
  | nilF
  | fmap (ks vs : List D)
  | nilI
  | any
  deriving Inhabited

def D.cells : D → List D
  | .agg cs => cs
  | x => [x]

def D.isAgg : D → Bool
  | .agg _ => true
  | _ => false

/-- May it stand in one cell? -/
def D.isCell : D → Bool
  | .agg _ | .tup _ | .any => false
  | _ => true

/-- Nothing in it is an address: it says the same in whatever memory. -/
def D.flat : D → Bool
  | .int _ _ | .bool _ | .str _ | .nilP | .nilF | .nilI => true
  | .agg cs => flatAll cs
  | .tup vs => flatAll vs
  | _ => false
where
  flatAll : List D → Bool
    | [] => true
    | x :: r => x.flat && flatAll r

/-- Values of a run: data, lists that may be appended to, addresses of own boxes. -/
inductive V where
  | d (x : D)
  | nil (z : Nat)
  | nn (z : Nat) (xs : List D)
  | own (z : Nat) (xs : List D)
  | agg (cs : List V)
  | tup (vs : List V)
  | ptr (l o : Nat)
  | ms (l z o n : Nat)
  | map (l : Nat)
  | func (f : Nat) (caps : List V)
  | undef
  deriving Inhabited

def V.isCell : V → Bool
  | .d x => x.isCell
  | .agg _ | .tup _ | .undef => false
  | _ => true

inductive Box where
  | cells (ag : Bool) (cs : List V)
  | map (ks vs : List D)
  | dead
  deriving Inhabited

/-- What is left of a value when its right to append is not handed on. -/
def V.bw : V → V
  | .own z xs => .d (.list z xs)
  | v => v

/-- A nil slice as a list that may be appended to. -/
def V.nilOwn : V → V
  | .nil z => .own z []
  | v => v

/-- The data of a value without addresses of own boxes. -/
def V.toD : V → Option D
  | .d x => some x
  | .nil z => some (.list z [])
  | .nn z xs => some (.list z xs)
  | .own z xs => some (.list z xs)
  | .agg cs => (toDs cs).map .agg
  | .tup vs => (toDs vs).map .tup
  | .func f caps => (toDs caps).map (.func f)
  | _ => none
where
  toDs : List V → Option (List D)
    | [] => some []
    | v :: r => match v.toD with
      | none => none
      | some x => match toDs r with
        | none => none
        | some xs => some (x :: xs)

def allD : List V → Option (List D)
  | [] => some []
  | .d x :: r => match allD r with
    | some xs => some (x :: xs)
    | none => none
  | _ :: _ => none

def mkAgg (cs : List V) : V :=
  match allD cs with
  | some xs => .d (.agg xs)
  | none => .agg cs

def V.cells : V → List V
  | .d (.agg cs) => cs.map .d
  | .agg cs => cs
  | v => [v]

def V.locs : V → List Nat
  | .ptr l _ | .ms l _ _ _ | .map l => [l]
  | .agg cs => locsAll cs
  | .tup vs => locsAll vs
  | .func _ caps => locsAll caps
  | _ => []
where
  locsAll : List V → List Nat
    | [] => []
    | v :: r => v.locs ++ locsAll r

def Box.locs : Box → List Nat
  | .cells _ cs => V.locs.locsAll cs
  | _ => []

def V.ren (f : Nat → Nat) : V → V
  | .ptr l o => .ptr (f l) o
  | .ms l z o n => .ms (f l) z o n
  | .map l => .map (f l)
  | .agg cs => .agg (renAll f cs)
  | .tup vs => .tup (renAll f vs)
  | .func g caps => .func g (renAll f caps)
  | v => v
where
  renAll (f : Nat → Nat) : List V → List V
    | [] => []
    | v :: r => v.ren f :: renAll f r

def Box.ren (f : Nat → Nat) : Box → Box
  | .cells ag cs => .cells ag (V.ren.renAll f cs)
  | b => b

def toDs : List V → Option (List D)
  | [] => some []
  | v :: r => match v.toD with
    | none => none
    | some x => match toDs r with
      | none => none
      | some xs => some (x :: xs)

mutual
/-- Surely the same. -/
def D.same : D → D → Bool
  | .int k n, .int k' n' => decide (k = k') && decide (n = n')
  | .bool a, .bool b => a == b
  | .str a, .str b => decide (a = b)
  | .list z xs, .list z' ys => decide (z = z') && D.sames xs ys
  | .agg xs, .agg ys => D.sames xs ys
  | .ref x, .ref y => D.same x y
  | .func f xs, .func g ys => decide (f = g) && D.sames xs ys
  | .nilP, .nilP => true
  | .nilF, .nilF => true
  | .nilI, .nilI => true
  | _, _ => false
def D.sames : List D → List D → Bool
  | [], [] => true
  | x :: r, y :: t => D.same x y && D.sames r t
  | _, _ => false
end

mutual
def V.same : V → V → Bool
  | .d x, .d y => D.same x y
  | .nil z, .nil z' => decide (z = z')
  | .nn z xs, .nn z' ys => decide (z = z') && D.sames xs ys
  | .own z xs, .own z' ys => decide (z = z') && D.sames xs ys
  | .agg xs, .agg ys => V.sames xs ys
  | .ptr l o, .ptr l' o' => decide (l = l') && decide (o = o')
  | .ms l z o n, .ms l' z' o' n' => decide (l = l') && decide (z = z') && decide (o = o') && decide (n = n')
  | .map l, .map l' => decide (l = l')
  | .func f xs, .func g ys => decide (f = g) && V.sames xs ys
  | .undef, .undef => true
  | _, _ => false
def V.sames : List V → List V → Bool
  | [], [] => true
  | x :: r, y :: t => V.same x y && V.sames r t
  | _, _ => false
end

def Box.same : Box → Box → Bool
  | .cells ag cs, .cells ag' cs' => (ag == ag') && V.sames cs cs'
  | .map ks vs, .map ks' vs' => D.sames ks ks' && D.sames vs vs'
  | .dead, .dead => true
  | _, _ => false

def sameBs : List Box → List Box → Bool
  | [], [] => true
  | x :: r, y :: t => Box.same x y && sameBs r t
  | _, _ => false

/-- The cells of box l, from o on, as elements of z cells each. -/
def chunks (z : Nat) : Nat → List V → Option (List D)
  | 0, _ => some []
  | n + 1, cs => match toDs (cs.take z) with
    | none => none
    | some xs => match chunks z n (cs.drop z) with
      | none => none
      | some ys => if z = 1 then (match xs with | [x] => some (x :: ys) | _ => none) else some (.agg xs :: ys)

/-- A part of an array behind an address, as a slice that is not appended to: by number: width of the elements, capacity. -/
def arrb : Nat := 4194304
def arrZ (f : Nat) : Nat := (f - arrb) / 65536
def arrM (f : Nat) : Nat := (f - arrb) % 65536
def arrC (z m : Nat) : Nat := arrb + z * 65536 + m

/-- Such a part: box, place, how many elements. -/
def arrAt : List V → Option (Nat × Nat × Nat)
  | [.ptr l o, .d (.int .i64 n)] => if 0 ≤ n then some (l, o, n.toNat) else none
  | _ => none

/-- The data of such a part. -/
def fzA (b : List Box) (f : Nat) (caps : List V) : Option (D × Bool) :=
  match arrAt caps with
  | some (l, o, n) => match b[l]? with
    | some (.cells _ cs) => if 0 < arrZ f ∧ n ≤ arrM f ∧ o + n * arrZ f ≤ cs.length then (chunks (arrZ f) n (cs.drop o)).map fun xs => (.list (arrZ f) xs, true) else none
    | _ => none
  | none => none

/-- The data that a value stands for, own boxes read where they stand; and whether one was read. -/
def fz : Nat → List Box → V → Option (D × Bool)
  | _, _, .d x => some (x, false)
  | _, _, .nil z => some (.list z [], false)
  | _, _, .nn z xs => some (.list z xs, false)
  | _, _, .own z xs => some (.list z xs, false)
  | 0, _, _ => none
  | k + 1, b, .agg cs => (fzs k b cs).map fun r => (.agg r.1, r.2)
  | k + 1, b, .tup vs => (fzs k b vs).map fun r => (.tup r.1, r.2)
  | k + 1, b, .func f caps => if arrb ≤ f then fzA b f caps else (fzs k b caps).map fun r => (.func f r.1, r.2)
  | k + 1, b, .ptr l o =>
    match b[l]? with
    | some (.cells ag cs) =>
      if o = 0 then
        match fzs k b cs with
        | some (xs, _) => if ag then some (.ref (.agg xs), true) else match xs with
          | [x] => if x.isAgg then none else some (.ref x, true)
          | _ => none
        | none => none
      else none
    | _ => none
  | _ + 1, b, .ms l z o n =>
    match b[l]? with
    | some (.cells _ cs) => if 0 < z ∧ o + n * z ≤ cs.length then (chunks z n (cs.drop o)).map fun xs => (.list z xs, true) else none
    | _ => none
  | _ + 1, b, .map l =>
    match b[l]? with
    | some (.map ks vs) => some (.fmap ks vs, true)
    | _ => none
  | _, _, _ => none
where
  fzs : Nat → List Box → List V → Option (List D × Bool)
    | _, _, [] => some ([], false)
    | 0, _, _ => none
    | k + 1, b, v :: r =>
      match fz k b v with
      | none => none
      | some (x, p) => match fzs k b r with
        | none => none
        | some (xs, q) => some (x :: xs, p || q)
end Go.Abs

/-! The abstract interpreter: operations, code, one step of the semantics, the fuelled semantics. -/
namespace Go.Abs

inductive Opd where
  | t (n : Nat)
  | k (v : V)
  deriving Inhabited

inductive AK where
  | mv (x : Opd)
  | tk (x : Nat)
  | pick (c a b : Opd)
  | alloc (ag : Bool) (z : List V)
  | allocR (j : Nat)
  | box (ag : Bool) (n : Nat) (x : Opd)
  | build (z : List V) (ps : List (Nat × Nat × Opd))
  | lit (z : Nat) (ps : List Opd)
  | litM (ps : List Opd)
  | ld (ag : Bool) (n : Nat) (x : Opd)
  | ldG (ag : Bool) (n : Nat) (x : Opd)
  | ldN (ag : Bool) (n : Nat) (x : Opd)
  | ldZ (ag : Bool) (n : Nat) (x : Opd)
  | stZ (ag : Bool) (n : Nat) (a x : Opd)
  | ldA (as : List Nat) (ag : Bool) (n : Nat) (x : Opd)
  | stA (ag : Bool) (n : Nat) (a x : Opd)
  | nilckN (x : Opd)
  | faN (off n : Nat) (ag : Bool) (x : Opd)
  | iaN (z : Nat) (ag : Bool) (x i : Opd)
  | stR (ag : Bool) (n : Nat) (a x : Opd)
  | callD (f : Nat) (as : List Opd)
  | callSR (f : Nat) (as : List Opd)
  | callN (f : Nat) (as : List Opd)
  | callNV (g : Opd) (as : List Opd)
  | callVR (g : Opd) (as : List Opd)
  | invk (tbl : List (Nat × Nat)) (x : Opd) (as : List Opd)
  | ldT (x : Opd)
  | st (ag : Bool) (n : Nat) (a x : Opd)
  | nilck (x : Opd)
  | bin (op : BinOp) (x y : Opd)
  | eqB (no : Bool) (x y : Opd)
  | eqRow (ks : List Nat) (no : Bool) (x y : Opd)
  | isNil (k : Nat) (x : Opd) (no : Bool)
  | not (x : Opd)
  | neg (x : Opd)
  | mm (mx : Bool) (x y : Opd)
  | mkI (t : Nat) (x : Opd)
  | conv (k : IntKind) (x : Opd)
  | convS (x : Opd)
  | fn (f : Nat) (caps : List Opd)
  | mkmap
  | mkslice (z : Nat) (zero : List V) (len cap : Opd)
  | mkO (z : Nat) (zero : List V) (len cap : Opd)
  | slice (z : Nat) (x : Opd) (lo hi mx : Option Opd)
  | slStr (x : Opd) (lo hi : Option Opd)
  | slA (m z : Nat) (x : Opd) (lo hi : Option Opd)
  | clr (z : Nat) (zero : List V) (x : Opd)
  | fa (off n : Nat) (ag : Bool) (x : Opd)
  | ia (z : Nat) (ag : Bool) (x i : Opd)
  | iaA (n z : Nat) (ag : Bool) (x i : Opd)
  | ixS (x i : Opd)
  | fld (off n : Nat) (ag : Bool) (x : Opd)
  | look (kd : Nat) (ok : Bool) (zero : D) (x k : Opd)
  | mup (kd : Nat) (m k v : Opd)
  | ext (x : Opd) (i : Nat)
  | call (f : Nat) (as : List Opd)
  | callX (f : Nat) (as : List Opd)
  | callO (f : Nat) (as : List Opd)
  | callS (f : Nat) (as : List Opd)
  | callV (g : Opd) (as : List Opd)
  | callVS (g : Opd) (as : List Opd)
  | app (z : Nat) (b y : Opd)
  | appM (z : Nat) (b y : Opd)
  | appZ (z : Nat) (zero : List V) (b n : Opd)
  | ralloc (ag : Bool) (z : List V)
  | rst (r : Nat) (ag : Bool) (n : Nat) (x : Opd)
  | len (k : Nat) (x : Opd)
  | cap (x : Opd)
  | copy (z : Nat) (x y : Opd)
  | bad
  deriving Inhabited

/-- The temporaries that an operation looks at. -/
def Opd.tmps : Opd → List Nat
  | .t n => [n]
  | .k _ => []

def tmpsAll : List Opd → List Nat
  | [] => []
  | x :: r => x.tmps ++ tmpsAll r

def tmpsOpt : Option Opd → List Nat
  | none => []
  | some x => x.tmps

/-- The temporaries among arguments. -/
def argT : List Opd → List Nat
  | [] => []
  | .t n :: r => n :: argT r
  | _ :: r => argT r

def AK.reads : AK → List Nat
  | .mv x | .box _ _ x | .ld _ _ x | .ldG _ _ x | .ldN _ _ x | .ldZ _ _ x | .nilckN x | .faN _ _ _ x | .mkI _ x | .ldT x | .nilck x | .isNil _ x _ | .not x | .neg x | .conv _ x | .convS x | .fa _ _ _ x | .fld _ _ _ x | .ext x _ | .len _ x | .cap x => x.tmps
  | .tk x => [x]
  | .ldA as _ _ x => x.tmps ++ as
  | .pick c a b => c.tmps ++ a.tmps ++ b.tmps
  | .rst r _ _ x => r :: x.tmps
  | .alloc _ _ | .allocR _ | .mkmap | .ralloc _ _ | .bad => []
  | .build _ ps => tmpsAll (ps.map (·.2.2))
  | .lit _ ps | .litM ps | .fn _ ps | .call _ ps | .callD _ ps | .callX _ ps | .callO _ ps | .callS _ ps | .callSR _ ps | .callN _ ps => tmpsAll ps
  | .callV g ps | .callVS g ps | .callVR g ps | .callNV g ps | .invk _ g ps => g.tmps ++ tmpsAll ps
  | .st _ _ x y | .stR _ _ x y | .stZ _ _ x y | .stA _ _ x y | .bin _ x y | .mm _ x y | .eqB _ x y | .eqRow _ _ x y | .mkslice _ _ x y | .mkO _ _ x y | .ia _ _ x y | .iaN _ _ x y | .iaA _ _ _ x y | .ixS x y | .look _ _ _ x y | .app _ x y | .appM _ x y | .appZ _ _ x y | .copy _ x y => x.tmps ++ y.tmps
  | .mup _ x y z => x.tmps ++ y.tmps ++ z.tmps
  | .slice _ x l h m => x.tmps ++ tmpsOpt l ++ tmpsOpt h ++ tmpsOpt m
  | .slStr x l h | .slA _ _ x l h => x.tmps ++ tmpsOpt l ++ tmpsOpt h
  | .clr _ _ x => x.tmps

/-- The temporaries whose right to append an operation takes over. -/
def AK.takes : AK → List Nat
  | .tk x => [x]
  | .st _ _ _ (.t x) => [x]
  | .stR _ _ _ (.t x) => [x]
  | .stZ _ _ _ (.t x) => [x]
  | .stA _ _ _ (.t x) => [x]
  | .app _ (.t x) _ => [x]
  | .callS _ as | .callVS _ as | .callSR _ as | .callN _ as | .callNV _ as | .callVR _ as | .invk _ _ as => argT as
  | _ => []

structure AOp where
  dst : Option Nat
  guard : Option (Nat × Bool)
  k : AK
  deriving Inhabited

inductive ACode where
  | skip
  | ops (rs : List Box) (l : List AOp)
  | seq (a b : ACode)
  | cond (c : Opd) (a b : ACode)
  | block (id : Nat) (c : ACode)
  | loop (kn : Nat) (mask : List Nat) (c : ACode)
  | exit (id : Nat)
  | scope (c : ACode)
  | label (l : Nat)
  | goto (l : Nat)
  | ret
  | bad
  deriving Inhabited

inductive Ex where
  | normal
  | exit (id : Nat)
  | goto (l : Nat)
  | ret
  deriving Inhabited, DecidableEq

structure St where
  t : List (Nat × V)
  b : List Box
  deriving Inhabited

def gt : List (Nat × V) → Nat → V
  | [], _ => .undef
  | (j, v) :: r, k => if k == j then v else gt r k

def St.g (s : St) : Nat → V := gt s.t

/-- How long a list, or a string, may grow: far above what any input that is looked at makes. -/
def lim : Nat := 1073741824

/-- How values with code are numbered: functions, functions bound to what stands before their arguments, interface values. -/
def bnd : Nat := 1048576
def ifc : Nat := 2097152

/-- Which function a function value calls, and with what. -/
def fnNo (f : Nat) : Nat := if f < bnd then f else f - bnd
def fnArgs (f : Nat) (as caps : List V) : List V := if f < bnd then as ++ caps else caps ++ as

abbrev CallF := Nat → List V → List Box → Option (V × List Box)

def Opd.ev (g : Nat → V) : Opd → V
  | .t n => g n
  | .k v => v

/-- An operand as most operations look at it: without its right to append. -/
def Opd.evb (g : Nat → V) (x : Opd) : V := (x.ev g).bw

def asInt : V → Option Int
  | .d (.int _ n) => some n
  | _ => none

def asBool : V → Option Bool
  | .d (.bool b) => some b
  | _ => none

/-- A value as a list: the width of its elements, the elements. -/
def asList : V → Option (Nat × List D)
  | .d (.list z xs) => some (z, xs)
  | .nil z => some (z, [])
  | .nn z xs => some (z, xs)
  | .own z xs => some (z, xs)
  | _ => none

/-- A length: 0 of a string, 1 of a slice, 2 of a map. -/
def lenE (b : List Box) : Nat → V → Option Int
  | 0, .d (.str s) => some s.length
  | 1, .d (.list _ xs) => some xs.length
  | 1, .nil _ => some 0
  | 1, .nn _ xs => some xs.length
  | 1, .func f caps => if arrb ≤ f then (match arrAt caps with
    | some (l, _, n) => (match b[l]? with
      | some (.cells _ _) => some n
      | _ => none)
    | none => none) else none
  | 1, .ms l _ _ n => match b[l]? with
    | some (.cells _ _) => some n
    | _ => none
  | 2, .d (.fmap ks _) => some ks.length
  | 2, .map l => match b[l]? with
    | some (.map ks _) => some ks.length
    | _ => none
  | _, _ => none

def strLess : List UInt8 → List UInt8 → Bool
  | _, [] => false
  | [], _ :: _ => true
  | a :: x, b :: y => a < b || (a == b && strLess x y)

def intBinE (op : BinOp) (k : IntKind) (a b : Int) : Option D :=
  match op with
  | .add => some (.int k (k.wrap (a + b)))
  | .sub => some (.int k (k.wrap (a - b)))
  | .mul => some (.int k (k.wrap (a * b)))
  | .quo => if b = 0 then none else some (.int k (k.wrap (a.tdiv b)))
  | .rem => if b = 0 then none else some (.int k (a.tmod b))
  | .and => some (.int k (k.wrap (BitVec.ofInt k.bits a &&& BitVec.ofInt k.bits b).toNat))
  | .or => some (.int k (k.wrap (BitVec.ofInt k.bits a ||| BitVec.ofInt k.bits b).toNat))
  | .eql => some (.bool (decide (a = b)))
  | .neq => some (.bool (!decide (a = b)))
  | .lss => some (.bool (decide (a < b)))
  | .leq => some (.bool (decide (a ≤ b)))
  | .gtr => some (.bool (decide (a > b)))
  | .geq => some (.bool (decide (a ≥ b)))
  | _ => none

def shiftE (op : BinOp) (k : IntKind) (a b : Int) : Option D :=
  if b < 0 then none else
  match op with
  | .shl => some (.int k (k.wrap (a * 2 ^ (min b.toNat k.bits))))
  | .shr => some (.int k (a.fdiv (2 ^ (min b.toNat k.bits))))
  | _ => none

def strBinE (op : BinOp) (a b : List UInt8) : Option D :=
  match op with
  | .add => if a.length + b.length ≤ lim then some (.str (a ++ b)) else none
  | .eql => some (.bool (decide (a = b)))
  | .neq => some (.bool (!decide (a = b)))
  | .lss => some (.bool (strLess a b))
  | .leq => some (.bool (strLess a b || decide (a = b)))
  | .gtr => some (.bool (!(strLess a b || decide (a = b))))
  | .geq => some (.bool (!strLess a b))
  | _ => none

/-- Equality of rows of scalars: 0 a number, 1 a string, else a bool. -/
def rowEq : List Nat → List D → List D → Option Bool
  | [], [], [] => some true
  | 0 :: ks, .int k a :: xs, .int k' b :: ys => if k = k' then (rowEq ks xs ys).map (decide (a = b) && ·) else none
  | 1 :: ks, .str a :: xs, .str b :: ys => (rowEq ks xs ys).map (decide (a = b) && ·)
  | 2 :: ks, .bool a :: xs, .bool b :: ys => (rowEq ks xs ys).map (decide (a = b) && ·)
  | _, _, _ => none

def binE (op : BinOp) : V → V → Option V
  | .d (.int k a), .d (.int k' b) =>
    if op = .shl ∨ op = .shr then (shiftE op k a b).map .d
    else if k = k' then (intBinE op k a b).map .d else none
  | .d (.str a), .d (.str b) => (strBinE op a b).map .d
  | _, _ => none

/-- Is a value of a kind (0 a slice, 1 a pointer, 2 a map, 3 a function) nil? -/
def isNilE (b : List Box) : Nat → V → Option Bool
  | 0, .nil _ => some true
  | 0, .nn _ _ => some false
  | 0, .d (.list _ (_ :: _)) => some false
  | 1, .d .nilP => some true
  | 1, .d (.ref _) => some false
  | 1, .ptr l _ => match b[l]? with
    | some (.cells _ _) => some false
    | _ => none
  | 2, .map l => match b[l]? with
    | some (.map _ _) => some false
    | _ => none
  | 3, .d .nilF => some true
  | 3, .d (.func f _) => if f < ifc then some false else none
  | 3, .func f _ => if f < ifc then some false else none
  | 4, .d .nilI => some true
  | 4, .d (.func f _) => if f < ifc then none else if f < arrb then some false else none
  | 4, .func f _ => if f < ifc then none else if f < arrb then some false else none
  | _, _ => none

/-- Is a key of a kind (0 a number, 1 a string, 2 a bool) the one that is looked for? -/
def keyEq : Nat → D → D → Option Bool
  | 0, .int k a, .int k' b => if k = k' then some (decide (a = b)) else none
  | 1, .str a, .str b => some (decide (a = b))
  | 2, .bool a, .bool b => some (decide (a = b))
  | _, _, _ => none

def findE (kd : Nat) (k : D) : List D → List D → Option (Option D)
  | [], _ => some none
  | _ :: _, [] => none
  | x :: ks, v :: vs => match keyEq kd k x with
    | some true => some (some v)
    | some false => findE kd k ks vs
    | none => none

def putE (kd : Nat) (k v : D) : List D → List D → Option (List D × List D)
  | [], _ => some ([k], [v])
  | _ :: _, [] => none
  | x :: ks, y :: vs => match keyEq kd k x with
    | some true => some (x :: ks, v :: vs)
    | some false => match putE kd k v ks vs with
      | some (a, b) => some (x :: a, y :: b)
      | none => none
    | none => none

/-- The result of a look-up. -/
def lookV (ok : Bool) (zero : D) : Option D → V
  | some v => if ok then .tup [.d v, .d (.bool true)] else .d v
  | none => if ok then .tup [.d zero, .d (.bool false)] else .d zero

/-- A part of a row of cells: a struct or array as a value of its own, a single cell as it is. -/
def partV (cs : List V) (off n : Nat) (ag : Bool) : Option V :=
  if ag then (if off + n ≤ cs.length then some (mkAgg (((cs.drop off).take n).map V.bw)) else none)
  else (cs[off]?).map V.bw

def partD (cs : List D) (off n : Nat) (ag : Bool) : Option D :=
  if ag then (if off + n ≤ cs.length then some (.agg ((cs.drop off).take n)) else none)
  else match cs[off]? with
    | some x => if x.isAgg then none else some x
    | none => none

/-- Does a value fit a variable of so many cells? -/
def fitsV (ag : Bool) (n : Nat) : V → Bool
  | .d (.agg cs) => ag && cs.length == n
  | .agg cs => ag && cs.length == n
  | .undef => false
  | .tup _ => false
  | .d x => !ag && x.isCell
  | _ => !ag

def fitsD (ag : Bool) (n : Nat) : D → Bool
  | .agg cs => ag && cs.length == n
  | x => !ag && x.isCell

def setCells {α : Type} (cs : List α) (off : Nat) : List α → List α
  | [] => cs
  | v :: r => setCells (cs.set off v) (off + 1) r

/-- May it be an element of so many cells? -/
def elemOk (z : Nat) (x : D) : Bool := x.cells.length == z && (x.isAgg || x.isCell)

def fillE (z : List V) : List (Nat × Nat × V) → Option (List V)
  | [] => some z
  | (off, n, v) :: r =>
    if (fitsV true n v = true ∨ (fitsV false n v = true ∧ n = 1)) ∧ off + n ≤ z.length then fillE (setCells z off (v.cells.map V.bw)) r else none

def evs (g : Nat → V) : List Opd → List V
  | [] => []
  | x :: r => x.ev g :: evs g r

def evbs (g : Nat → V) : List Opd → List V
  | [] => []
  | x :: r => x.evb g :: evbs g r

/-- Arguments with their right to append; without it, where one is handed on twice. -/
def evX (g : Nat → V) (as : List Opd) : List V := if (argT as).Nodup then evs g as else evbs g as

/-- The bounds of a slicing: low, high, in a list of so many elements. -/
def bounds (g : Nat → V) (n : Nat) (lo hi : Option Opd) : Option (Nat × Nat) :=
  match (match hi with | none => some (n : Int) | some x => asInt (x.evb g)), (match lo with | none => some 0 | some x => asInt (x.evb g)) with
  | some h, some l => if 0 ≤ l ∧ l ≤ h ∧ h ≤ n then some (l.toNat, h.toNat) else none
  | _, _ => none

def freezeArgs (b : List Box) : List V → Option (List D × Bool)
  | [] => some ([], false)
  | v :: r => match fz 64 b v with
    | none => none
    | some (x, p) => match freezeArgs b r with
      | none => none
      | some (xs, q) => some (x :: xs, p || q)

/-- A call on data: the callee runs in a store of its own, and hands back data. -/
def callP (call : CallF) (b : List Box) (f : Nat) (vs : List V) : Option V :=
  match freezeArgs b vs with
  | none => none
  | some (ds, p) => match call f (ds.map .d) [] with
    | none => none
    | some (v, b') => match fz 64 b' v with
      | none => none
      | some (x, _) => if p && !x.flat then none else some (.d x)

/-- The same; an argument that is no data is not told to the callee. -/
def callPX (call : CallF) (f : Nat) (vs : List V) : Option V :=
  match call f ((vs.map fun v => v.toD.getD .any).map .d) [] with
  | none => none
  | some (v, b') => match fz 64 b' v with
    | none => none
    | some (x, _) => some (.d x)

/-- The same, where the callee hands back a list that may be appended to. -/
def callPO (call : CallF) (b : List Box) (f : Nat) (vs : List V) : Option V :=
  match freezeArgs b vs with
  | none => none
  | some (ds, p) => match call f (ds.map .d) [] with
    | none => none
    | some (.own z xs, _) => if p then none else some (.own z xs)
    | some (.nil z, _) => some (.nil z)
    | some _ => none

def closedV (n : Nat) (v : V) : Bool := v.locs.all (· < n)
def closedB (n : Nat) (x : Box) : Bool := x.locs.all (· < n)

def reach : Nat → List Box → List Nat → List Nat → List Nat
  | 0, _, _, seen => seen
  | _ + 1, _, [], seen => seen
  | k + 1, b, l :: todo, seen =>
    if seen.contains l then reach k b todo seen
    else reach k b ((match b[l]? with | some x => x.locs | none => []) ++ todo) (seen ++ [l])

def subStore (b : List Box) (ls : List Nat) : List Box :=
  ls.map fun l => match b[l]? with | some x => x.ren (ls.idxOf ·) | none => .dead

def writeBack (b : List Box) : List Nat → List Box → List Box
  | l :: ls, x :: xs => writeBack (b.set l x) ls xs
  | _, _ => b

/-- A call that hands on own boxes: the callee runs in the part of the store that it can reach. -/
def callSt (call : CallF) (b : List Box) (f : Nat) (vs : List V) : Option (V × List Box) :=
  let ls := reach 64 b (V.locs.locsAll vs) []
  if decide ls.Nodup && (V.locs.locsAll vs).all (ls.contains ·) && (ls.all fun l => match b[l]? with | some x => x.locs.all (ls.contains ·) | none => false) then
    match call f (V.ren.renAll (ls.idxOf ·) vs) (subStore b ls) with
    | none => none
    | some (v, b') =>
      let m := ls.length
      if b'.length < m then none else
      let ρ := fun i => if i < m then ls.getD i 0 else b.length + (i - m)
      let back := writeBack b ls ((b'.take m).map (Box.ren ρ))
      if closedV m v && (b'.take m).all (closedB m) then some (v.ren ρ, back)
      else some (v.ren ρ, back ++ (b'.drop m).map (Box.ren ρ))
  else none

/-- A call that hands on own boxes, of those below 'base', and leaves all as it is: what it answers. -/
def callRd (call : CallF) (base : Nat) (b : List Box) (f : Nat) (vs : List V) : Option V :=
  let b0 := b.take base
  let ls := reach 64 b0 (V.locs.locsAll vs) []
  if decide ls.Nodup && (V.locs.locsAll vs).all (ls.contains ·) && (ls.all fun l => match b0[l]? with | some x => x.locs.all (ls.contains ·) | none => false) then
    match call f (V.ren.renAll (ls.idxOf ·) vs) (subStore b0 ls) with
    | none => none
    | some (v, b') =>
      let m := ls.length
      if b'.length < m then none else
      if closedV 0 v && (b'.take m).all (closedB m) && sameBs ((b'.take m).map (Box.ren fun i => ls.getD i 0)) (ls.map fun l => b0.getD l .dead) then some v else none
  else none

/-- A small box: two to four cells. -/
def smallC (n : Nat) : Bool := decide (2 ≤ n) && decide (n ≤ 4)

def smallB : Box → Bool
  | .cells _ cs => smallC cs.length
  | _ => false

/-- The same boxes, but for small ones. -/
def keepBig : List Box → List Box → Bool
  | [], [] => true
  | x :: r, y :: t => (smallB x && smallB y || Box.same x y) && keepBig r t
  | _, _ => false

/-- Is the box still there? -/
def alive (b : List Box) (l : Nat) : Bool := match b[l]? with
  | some (.cells _ _) => true
  | some (.map _ _) => true
  | _ => false

def funcOf : V → Option (Nat × List V)
  | .d (.func f caps) => if f < ifc then some (f, caps.map .d) else none
  | .func f caps => if f < ifc then some (f, caps) else none
  | _ => none

/-- An interface value: the number of its type, what it holds. -/
def ifaceOf : V → Option (Nat × V)
  | .d (.func f [y]) => if f < ifc then none else if f < arrb then some (f - ifc, .d y) else none
  | .func f [v] => if f < ifc then none else if f < arrb then some (f - ifc, v) else none
  | _ => none

def tblGet : List (Nat × Nat) → Nat → Option Nat
  | [], _ => none
  | (t, f) :: r, k => if t = k then some f else tblGet r k

def intPick (mx : Bool) (m n : Int) : Int := if mx then (if n > m then n else m) else (if n < m then n else m)

/-- So many copies of the cells of a zero value. -/
def zeros (zero : List V) : Nat → List V
  | 0 => []
  | n + 1 => zero ++ zeros zero n

/-- What stands in an own array, or in a list, as data. -/
def listOf (z : Nat) (b : List Box) : V → Option (List D)
  | .ms l z' o n => match b[l]? with
    | some (.cells _ cs) => if z' = z ∧ o + n * z ≤ cs.length then chunks z n (cs.drop o) else none
    | _ => none
  | v => match asList v with
    | some (z', xs) => if z' = z then some xs else none
    | none => none

def dcells (xs : List D) : List V := (xs.flatMap D.cells).map .d

/-- Do all these lead to other boxes? -/
def apartB (g : Nat → V) (l : Nat) : List Nat → Bool
  | [] => true
  | a :: r => (match (g a).bw with
    | .ptr l' _ => l' != l
    | _ => false) && apartB g l r

/-- One operation: its value, and the store behind it. -/
def AK.run (base : Nat) (call : CallF) (g : Nat → V) (b : List Box) : AK → Option (V × List Box)
  | .mv x => some (x.evb g, b)
  | .tk x => some (g x, b)
  | .pick c x y => match asBool (c.evb g) with
    | some t => some ((if t then x.evb g else y.evb g), b)
    | none => none
  | .alloc ag z => some (.ptr b.length 0, b ++ [.cells ag z])
  | .allocR j => some (.ptr (base + j) 0, b)
  | .box ag n x =>
    if fitsV ag n (x.evb g) then some (.ptr b.length 0, b ++ [.cells ag ((x.evb g).cells.map V.bw)]) else none
  | .build z ps => match fillE z (ps.map fun p => (p.1, p.2.1, p.2.2.evb g)) with
    | some cs => some (mkAgg cs, b)
    | none => none
  | .lit z ps => match toDs (evbs g ps) with
    | some xs => if xs.all (elemOk z) then some (.own z xs, b) else none
    | none => none
  | .ld ag n x => match x.evb g with
    | .d (.ref y) => if fitsD ag n y then some (.d y, b) else none
    | .ptr l o => match b[l]? with
      | some (.cells _ cs) => match partV cs o n ag with
        | some v => some (v, b)
        | none => none
      | _ => none
    | _ => none
  | .litM ps => if (evbs g ps).all V.isCell then some (.ms b.length 1 0 (evbs g ps).length, b ++ [.cells false (evbs g ps)]) else none
  | .ldG ag n x => match x.evb g with
    | .d (.ref y) => if fitsD ag n y then some (.d y, b) else none
    | .ptr l o => if l < base then (match b[l]? with
      | some (.cells _ cs) => match partV cs o n ag with
        | some v => some (v, b)
        | none => none
      | _ => none) else none
    | _ => none
  | .stR ag n a x => match a.evb g with
    | .ptr l o => if l < base then none else match b[l]? with
      | some (.cells ag' cs) =>
        if fitsV ag n (x.ev g) ∧ o + n ≤ cs.length ∧ (ag = true ∨ n = 1) then
          some (.undef, b.set l (.cells ag' (setCells cs o (x.ev g).cells)))
        else none
      | _ => none
    | _ => none
  | .ldZ ag n x => match x.evb g with
    | .d (.ref y) => if fitsD ag n y then some (.d y, b) else none
    | .ptr l o => match b[l]? with
      | some (.cells _ cs) => if cs.length ≤ 5 then (match partV cs o n ag with
        | some v => some (v, b)
        | none => none) else none
      | _ => none
    | _ => none
  | .stZ ag n a x => match a.evb g with
    | .ptr l o => match b[l]? with
      | some (.cells ag' cs) =>
        if 5 < cs.length then
          (if fitsV ag n (x.ev g) ∧ o + n ≤ cs.length ∧ (ag = true ∨ n = 1) then
            some (.undef, b.set l (.cells ag' (setCells cs o (x.ev g).cells)))
          else none) else none
      | _ => none
    | _ => none
  | .ldA as ag n x => match x.evb g with
    | .d (.ref y) => if fitsD ag n y then some (.d y, b) else none
    | .ptr l o => if apartB g l as = true then (match b[l]? with
      | some (.cells _ cs) => match partV cs o n ag with
        | some v => some (v, b)
        | none => none
      | _ => none) else none
    | _ => none
  | .stA ag n a x => match a.evb g with
    | .ptr l o => match b[l]? with
      | some (.cells ag' cs) =>
        if fitsV ag n (x.ev g) ∧ o + n ≤ cs.length ∧ (ag = true ∨ n = 1) then
          some (.undef, b.set l (.cells ag' (setCells cs o (x.ev g).cells)))
        else none
      | _ => none
    | _ => none
  | .ldN ag n x => match x.evb g with
    | .d (.ref y) => if fitsD ag n y then some (.d y, b) else none
    | .ptr l o => if l < base then (match b[l]? with
      | some (.cells _ cs) => if smallC cs.length = false then (match partV cs o n ag with
        | some v => some (v, b)
        | none => none) else none
      | _ => none) else none
    | _ => none
  | .nilckN x => match x.evb g with
    | .ptr l o => if l < base then (if alive b l then some (.ptr l o, b) else none) else none
    | .d (.ref y) => some (.d (.ref y), b)
    | _ => none
  | .faN off n ag x => match x.evb g with
    | .d (.ref (.agg cs)) => match partD cs off n ag with
      | some y => some (.d (.ref y), b)
      | none => none
    | .ptr l o => if l < base then (if alive b l then some (.ptr l (o + off), b) else none) else none
    | _ => none
  | .iaN z ag x i => match asInt (i.evb g) with
    | some k =>
      if 0 ≤ k then
        match asList (x.evb g) with
        | some (z', xs) => match xs[k.toNat]? with
          | some y => if z' = z ∧ fitsD ag z y then some (.d (.ref y), b) else none
          | none => none
        | none => none
      else none
    | none => none
  | .callN f as => match callSt call b f (evX g as) with
    | some (v, b1) => if keepBig (b.take base) (b1.take base) then some (v, b1) else none
    | none => none
  | .callNV h as => match funcOf (h.evb g) with
    | some (f, caps) => match callSt call b (fnNo f) (fnArgs f (evX g as) caps) with
      | some (v, b1) => if keepBig (b.take base) (b1.take base) then some (v, b1) else none
      | none => none
    | none => none
  | .callD f as => match callP call [] f (evbs g as) with
    | some v => some (v, b)
    | none => none
  | .callSR f as => match callRd call base b f (evX g as) with
    | some v => some (v, b)
    | none => none
  | .callVR h as => match funcOf (h.evb g) with
    | some (f, caps) => match callRd call base b (fnNo f) (fnArgs f (evX g as) caps) with
      | some v => some (v, b)
      | none => none
    | none => none
  | .invk tbl x as => match ifaceOf (x.evb g) with
    | some (t, v) => match tblGet tbl t with
      | some f => callSt call b f (v :: evX g as)
      | none => none
    | none => none
  | .mm mx x y => match x.evb g, y.evb g with
    | .d (.int k m), .d (.int k' n) => if k = k' then some (.d (.int k (intPick mx m n)), b) else none
    | _, _ => none
  | .mkI t x => match allD [x.evb g] with
    | some xs => some (.d (.func (ifc + t) xs), b)
    | none => some (.func (ifc + t) [x.evb g], b)
  | .iaA n z ag x i => match asInt (i.evb g) with
    | some k =>
      if 0 ≤ k ∧ k < n then
        match x.evb g with
        | .d (.ref (.agg cs)) => match partD cs (k.toNat * z) z ag with
          | some y => some (.d (.ref y), b)
          | none => none
        | .ptr l o => if alive b l then some (.ptr l (o + k.toNat * z), b) else none
        | _ => none
      else none
    | none => none
  | .ldT x => match x.evb g with
    | .ptr l o => match b[l]? with
      | some (.cells ag cs) => match cs[o]? with
        | some v => some (v, b.set l (.cells ag (cs.set o v.bw)))
        | none => none
      | _ => none
    | .d (.ref y) => if fitsD false 1 y then some (.d y, b) else none
    | _ => none
  | .st ag n a x => match a.evb g with
    | .ptr l o => match b[l]? with
      | some (.cells ag' cs) =>
        if fitsV ag n (x.ev g) ∧ o + n ≤ cs.length ∧ (ag = true ∨ n = 1) then
          some (.undef, b.set l (.cells ag' (setCells cs o (x.ev g).cells)))
        else none
      | _ => none
    | _ => none
  | .nilck x => match x.evb g with
    | .ptr l o => if alive b l then some (.ptr l o, b) else none
    | .d (.ref y) => some (.d (.ref y), b)
    | _ => none
  | .bin op x y => match binE op (x.evb g) (y.evb g) with
    | some v => some (v, b)
    | none => none
  | .eqB no x y => match asBool (x.evb g), asBool (y.evb g) with
    | some s, some t => some (.d (.bool ((s == t) != no)), b)
    | _, _ => none
  | .eqRow ks no x y => match x.evb g, y.evb g with
    | .d (.agg xs), .d (.agg ys) => match rowEq ks xs ys with
      | some t => some (.d (.bool (t != no)), b)
      | none => none
    | _, _ => none
  | .isNil k x no => match isNilE b k (x.evb g) with
    | some t => some (.d (.bool (t != no)), b)
    | none => none
  | .not x => match asBool (x.evb g) with
    | some t => some (.d (.bool !t), b)
    | none => none
  | .neg x => match x.evb g with
    | .d (.int k n) => some (.d (.int k (k.wrap (0 - n))), b)
    | _ => none
  | .conv k x => match asInt (x.evb g) with
    | some n => some (.d (.int k (k.wrap n)), b)
    | none => none
  | .convS x => match x.evb g with
    | .d (.str s) => some (.d (.str s), b)
    | _ => none
  | .fn f caps => match allD (evbs g caps) with
    | some xs => some (.d (.func f xs), b)
    | none => some (.func f (evbs g caps), b)
  | .mkmap => some (.map b.length, b ++ [.map [] []])
  | .mkslice z zero l c => match asInt (l.evb g), asInt (c.evb g) with
    | some n, some m =>
      if 0 ≤ n ∧ n ≤ m ∧ m ≤ (lim : Int) ∧ zero.length = z then some (.ms b.length z 0 n.toNat, b ++ [.cells false (zeros zero m.toNat)]) else none
    | _, _ => none
  | .mkO z zero l c => match asInt (l.evb g), asInt (c.evb g) with
    | some n, some m =>
      if n = 0 ∧ 0 ≤ m ∧ m ≤ (lim : Int) ∧ zero.length = z then some (.own z [], b) else none
    | _, _ => none
  | .slice z x lo hi mx =>
    match x.evb g with
    | .ms l z' o n => match mx with
      | none => match bounds g n lo hi with
        | some (a, c) => if z' = z ∧ alive b l = true then some (.ms l z (o + a * z) (c - a), b) else none
        | none => none
      | some _ => none
    | .nil z' => if z' = z then (match bounds g 0 lo hi with
        | some _ => match mx with
          | none => some (.nil z, b)
          | some m => if asInt (m.evb g) = some 0 then some (.nil z, b) else none
        | none => none) else none
    | v => match asList v with
      | some (z', xs) => if z' = z then (match bounds g xs.length lo hi with
          | some (a, c) => match mx with
            | none => some (.d (.list z ((xs.take c).drop a)), b)
            | some m => if asInt (m.evb g) = some (c : Int) then some (.own z ((xs.take c).drop a), b) else none
          | none => none) else none
      | none => none
  | .slStr x lo hi => match x.evb g with
    | .d (.str s) => match bounds g s.length lo hi with
      | some (a, c) => some (.d (.str ((s.take c).drop a)), b)
      | none => none
    | _ => none
  | .slA m z x lo hi => match x.evb g with
    | .ptr l o => match bounds g m lo hi with
      | some (i, j) => if alive b l = true ∧ i < m ∧ m < 65536 ∧ 0 < z then some (.func (arrC z (m - i)) [.ptr l (o + i * z), .d (.int .i64 ((j - i : Nat) : Int))], b) else none
      | none => none
    | _ => none
  | .clr z zero x => match x.evb g with
    | .func f caps => if arrb ≤ f ∧ arrZ f = z ∧ zero.length = z then (match arrAt caps with
      | some (l, o, n) => match b[l]? with
        | some (.cells ag cs) => if n ≤ arrM f ∧ o + n * z ≤ cs.length then some (.undef, b.set l (.cells ag (setCells cs o (zeros zero n)))) else none
        | _ => none
      | none => none) else none
    | _ => none
  | .fa off n ag x => match x.evb g with
    | .d (.ref (.agg cs)) => match partD cs off n ag with
      | some y => some (.d (.ref y), b)
      | none => none
    | .ptr l o => if alive b l then some (.ptr l (o + off), b) else none
    | _ => none
  | .ia z ag x i => match asInt (i.evb g) with
    | some k =>
      if 0 ≤ k then
        match x.evb g with
        | .ms l z' o n => if z' = z ∧ k < n ∧ alive b l = true then some (.ptr l (o + k.toNat * z), b) else none
        | .func f caps => if arrb ≤ f ∧ arrZ f = z then (match arrAt caps with
          | some (l, o, n) => if k < n ∧ alive b l = true then some (.ptr l (o + k.toNat * z), b) else none
          | none => none) else none
        | v => match asList v with
          | some (z', xs) => match xs[k.toNat]? with
            | some y => if z' = z ∧ fitsD ag z y then some (.d (.ref y), b) else none
            | none => none
          | none => none
      else none
    | none => none
  | .ixS x i => match x.evb g, asInt (i.evb g) with
    | .d (.str s), some k => if 0 ≤ k then (match s[k.toNat]? with
        | some c => some (.d (.int .u8 c.toNat), b)
        | none => none) else none
    | _, _ => none
  | .fld off n ag x => match x.evb g with
    | .d (.agg cs) => match partD cs off n ag with
      | some y => some (.d y, b)
      | none => none
    | .agg cs => match partV cs off n ag with
      | some v => some (v, b)
      | none => none
    | _ => none
  | .look kd ok zero x k => match k.evb g with
    | .d k =>
      match (match x.evb g with
        | .d (.fmap ks vs) => findE kd k ks vs
        | .map l => match b[l]? with
          | some (.map ks vs) => findE kd k ks vs
          | _ => none
        | _ => none) with
      | none => none
      | some r => some (lookV ok zero r, b)
    | _ => none
  | .mup kd m k v => match m.evb g, k.evb g, (v.evb g).toD with
    | .map l, .d k, some v => match b[l]? with
      | some (.map ks vs) => match putE kd k v ks vs with
        | some (ks', vs') => some (.undef, b.set l (.map ks' vs'))
        | none => none
      | _ => none
    | _, _, _ => none
  | .ext x i => match x.evb g with
    | .tup vs => match vs[i]? with
      | some v => some (v.bw, b)
      | none => none
    | .d (.tup xs) => match xs[i]? with
      | some y => some (.d y, b)
      | none => none
    | _ => none
  | .call f as => match callP call b f (evbs g as) with
    | some v => some (v, b)
    | none => none
  | .callX f as => match callPX call f (evbs g as) with
    | some v => some (v, b)
    | none => none
  | .callO f as => match callPO call b f (evbs g as) with
    | some v => some (v, b)
    | none => none
  | .callS f as => callSt call b f (evX g as)
  | .callV h as => match funcOf (h.evb g) with
    | some (f, caps) => match callP call b (fnNo f) (fnArgs f (evbs g as) caps) with
      | some v => some (v, b)
      | none => none
    | none => none
  | .callVS h as => match funcOf (h.evb g) with
    | some (f, caps) => callSt call b (fnNo f) (fnArgs f (evX g as) caps)
    | none => none
  | .app z x y => match listOf z b (y.evb g) with
    | none => none
    | some ys => match x.ev g with
      | .own z' xs => if z' = z ∧ xs.length + ys.length ≤ lim then some (.own z (xs ++ ys), b) else none
      | .nil z' => if z' = z ∧ ys.length ≤ lim then some ((if ys.isEmpty then .nil z else .own z ys), b) else none
      | _ => none
  | .appM z x y => match listOf z b (y.evb g) with
    | none => none
    | some ys => match x.evb g with
      | .nil z' => if z' = z ∧ ys.length ≤ lim then (if ys.isEmpty then some (.nil z, b) else some (.ms b.length z 0 ys.length, b ++ [.cells false (dcells ys)])) else none
      | .ms l z' o n => match b[l]? with
        | some (.cells _ cs) =>
          if z' ≠ z ∨ ¬ n + ys.length ≤ lim then none else
          if o + (n + ys.length) * z ≤ cs.length then
            some (.ms l z o (n + ys.length), b.set l (.cells false (setCells cs (o + n * z) (dcells ys))))
          else if o = 0 ∧ n * z ≤ cs.length then
            some (.ms b.length z 0 (n + ys.length), b.set l .dead ++ [.cells false ((cs.take (n * z)).map V.bw ++ dcells ys)])
          else none
        | _ => none
      | _ => none
  | .appZ z zero x n => match x.evb g, asInt (n.evb g) with
    | .nil z', some k =>
      if z' = z ∧ 0 < k ∧ k ≤ (lim : Int) ∧ zero.length = z then some (.ms b.length z 0 k.toNat, b ++ [.cells false (zeros zero k.toNat)]) else none
    | _, _ => none
  | .ralloc ag z => if ag then some (mkAgg z, b) else match z with
    | [v] => some (v, b)
    | _ => none
  | .rst r ag n x => match g r with
    | .undef => none
    | _ => if fitsV ag n (x.evb g) then some (x.evb g, b) else none
  | .len k x => match lenE b k (x.evb g) with
    | some n => some (.d (.int .i64 n), b)
    | none => none
  | .cap x => match x.evb g with
    | .nil _ => some (.d (.int .i64 0), b)
    | _ => none
  | .copy z x y => match listOf z b (y.evb g) with
    | none => none
    | some ys => match x.evb g with
      | .ms l z' o n => match b[l]? with
        | some (.cells ag cs) =>
          if z' = z ∧ o + n * z ≤ cs.length then
            some (.d (.int .i64 (min ys.length n : Nat)), b.set l (.cells ag (setCells cs o (dcells (ys.take n)))))
          else none
        | _ => none
      | _ => none
  | .bad => none

def demote (g : List (Nat × V)) : List Nat → List (Nat × V)
  | [] => g
  | x :: r => (x, (gt g x).bw) :: demote g r

def putT (t : List (Nat × V)) (dst : Option Nat) (v : V) : List (Nat × V) :=
  match dst with
  | some k => (k, v) :: t
  | none => t

/-- One operation of a region: skipped where its guard does not hold. -/
def AOp.step (base : Nat) (call : CallF) (o : AOp) (s : St) : Option St :=
  let go : Option St := match o.k.run base call s.g s.b with
    | some (v, b) => some ⟨putT (demote s.t o.k.takes) o.dst v, b⟩
    | none => none
  match o.guard with
  | none => go
  | some (j, want) => match s.g j with
    | .d (.bool c) => if c == want then go else some ⟨putT s.t o.dst (.d (.tup [])), s.b⟩
    | .d (.tup []) => some ⟨putT s.t o.dst (.d (.tup [])), s.b⟩
    | _ => none

def runOps (base : Nat) (call : CallF) : List AOp → St → Option St
  | [], s => some s
  | o :: r, s => match o.step base call s with
    | some s' => runOps base call r s'
    | none => none

def maskT (kn : Nat) (t : List (Nat × V)) : List Nat → List (Nat × V)
  | [] => []
  | k :: r => (k, if k < kn then (gt t k).nilOwn else gt t k) :: maskT kn t r

def closedT (n : Nat) : List (Nat × V) → Bool
  | [] => true
  | (_, v) :: r => closedV n v && closedT n r

/-- The state at a loop's head: what the loop, or what stands behind it, looks at. -/
def norm (kn : Nat) (mask : List Nat) (n : Nat) (s : St) : St :=
  let t := maskT kn s.t mask
  if closedT n t && (s.b.take n).all (closedB n) then ⟨t, s.b.take n⟩ else ⟨t, s.b⟩

/-- What stands behind a label; nothing: where that cannot be said. -/
def findL : ACode → Nat → Option (Option ACode)
  | .seq a b, l => match findL a l with
    | some (some r) => some (some (.seq r b))
    | some none => findL b l
    | none => none
  | .label l', l => some (if l' == l then some .skip else none)
  | .bad, _ => none
  | _, _ => some none

inductive Again where
  | loop (kn : Nat) (mask : List Nat) (n : Nat) (c : ACode)
  | scope (body c : ACode)

abbrev AgainF := Again → St → Option (Ex × St)

def runCode (call : CallF) (again : AgainF) : ACode → St → Option (Ex × St)
  | .skip, s => some (.normal, s)
  | .ops rs l, s => match runOps s.b.length call l ⟨s.t, s.b ++ rs⟩ with
    | some s' => some (.normal, s')
    | none => none
  | .seq a b, s => match runCode call again a s with
    | some (.normal, s') => runCode call again b s'
    | r => r
  | .cond c a b, s => match asBool (c.ev s.g) with
    | some true => runCode call again a s
    | some false => runCode call again b s
    | none => none
  | .block id c, s => match runCode call again c s with
    | some (.exit j, s') => some (if j = id then .normal else .exit j, s')
    | r => r
  | .loop kn mask c, s => again (.loop kn mask s.b.length c) (norm kn mask s.b.length s)
  | .exit id, s => some (.exit id, s)
  | .scope c, s => again (.scope c c) s
  | .label _, s => some (.normal, s)
  | .goto l, s => some (.goto l, s)
  | .ret, s => some (.ret, s)
  | .bad, _ => none

/-- A result: a temporary, or a register that stands for a variable in memory. -/
inductive Res where
  | tmp (k : Nat)
  | reg (k : Nat)
  | cel (k : Nat) (ag : Bool) (n : Nat)
  deriving Inhabited

/-- 'low': above the parameters, from where temporaries and registers begin. -/
structure AFunc where
  low : Nat
  results : List Res
  body : ACode

/-- A function with one deferred call: what stands ahead of it, the function value that is deferred, what stands behind. 'noop': a function that does nothing where nothing panics. -/
structure LFunc where
  low : Nat
  results : List Res
  pre : ACode
  ops : List AOp
  x : Opd
  post : ACode
  noop : Option Nat
  deriving Inhabited

/-- A function by its code; or by what it is proved to answer on data. -/
inductive AFn where
  | code (F : AFunc)
  | spec (h : List D → Option V)
  | late (F : LFunc)

abbrev AProg := Nat → Option AFn

def params (vs : List V) (i : Nat) : List (Nat × V) :=
  match vs with
  | [] => []
  | v :: r => (i, v) :: params r (i + 1)

def Res.val (s : St) : Res → Option V
  | .tmp k => some (s.g k)
  | .reg k => match s.g k with
    | .undef => none
    | v => some v
  | .cel k ag n => match (s.g k).bw with
    | .ptr l o => match s.b[l]? with
      | some (.cells _ cs) => partV cs o n ag
      | _ => none
    | _ => none

def resVals (s : St) : List Res → Option (List V)
  | [] => some []
  | r :: rs => match r.val s with
    | none => none
    | some v => match resVals s rs with
      | none => none
      | some vs => some (v :: vs)

def resultV (s : St) (rs : List Res) : Option V :=
  match rs with
  | [r] => r.val s
  | _ => match resVals s rs with
    | some vs => some (.tup (vs.map V.bw))
    | none => none

def AFn.isCode : Option AFn → Bool
  | some (.code _) => true
  | _ => false

/-- The deferred call. -/
def lateCall (P : AProg) (call : CallF) (F : LFunc) (x : V) (b : List Box) : Option (List Box) :=
  match funcOf x.bw with
  | none => none
  | some (f, caps) =>
    if f < bnd then
      (if F.noop = some f then some b else if AFn.isCode (P f) then (match callSt call b f caps with
        | some r => some r.2
        | none => none) else none)
    else none

/-- What stands behind the region that defers. -/
def lateEnd (P : AProg) (call : CallF) (F : LFunc) (x : V) (r : Option (Ex × St)) : Option (V × List Box) :=
  match r with
  | some (.normal, s) | some (.ret, s) => match lateCall P call F x s.b with
    | none => none
    | some b => match resultV ⟨s.t, b⟩ F.results with
      | some v => some (v, b)
      | none => none
  | _ => none

def runBody (P : AProg) (call : CallF) (again : AgainF) : CallF := fun f vs b =>
  match P f with
  | none => none
  | some (.spec h) => match toDs vs, b with
    | some ds, [] => match h ds with
      | some v => some (v, [])
      | none => none
    | _, _ => none
  | some (.late F) =>
    if vs.length ≤ F.low then
      match runCode call again F.pre ⟨params vs 0, b⟩ with
      | some (.ret, s) => match resultV s F.results with
        | some v => some (v, s.b)
        | none => none
      | some (.normal, s) => match runOps s.b.length call F.ops s with
        | some s1 => lateEnd P call F (F.x.ev s1.g) (runCode call again F.post s1)
        | none => none
      | _ => none
    else none
  | some (.code F) =>
    if vs.length ≤ F.low then
      match runCode call again F.body ⟨params vs 0, b⟩ with
      | some (.normal, s) | some (.ret, s) => match resultV s F.results with
        | some v => some (v, s.b)
        | none => none
      | _ => none
    else none

def runAgain (call : CallF) (again : AgainF) : AgainF := fun w s =>
  match w with
  | .loop kn mask n c => match runCode call again c s with
    | some (.normal, s') => again (.loop kn mask n c) (norm kn mask n s')
    | r => r
  | .scope body c => match runCode call again c s with
    | some (.goto l, s') => match findL body l with
      | some (some r) => again (.scope body r) s'
      | _ => none
    | r => r

/-- The semantics with so much fuel: calls, and rounds of loops. -/
def semN (P : AProg) : Nat → CallF × AgainF
  | 0 => (fun _ _ _ => none, fun _ _ => none)
  | n + 1 => (runBody P (semN P n).1 (semN P n).2, runAgain (semN P n).1 (semN P n).2)

end Go.Abs

/-! The semantics without fuel: the limit of the fuelled ones, and its equations. -/
namespace Go.Abs
set_option linter.unusedVariables false

abbrev Orc := CallF × AgainF

/-- U holds at x, and wherever a finite part of x's answers stands. -/
def Near (x : Orc) (U : Orc → Prop) : Prop :=
  ∃ (L : List (Nat × List V × List Box)) (M : List (Again × St)),
    (∀ q ∈ L, (x.1 q.1 q.2.1 q.2.2).isSome) ∧ (∀ q ∈ M, (x.2 q.1 q.2).isSome) ∧
    ∀ y : Orc, (∀ q ∈ L, y.1 q.1 q.2.1 q.2.2 = x.1 q.1 q.2.1 q.2.2) → (∀ q ∈ M, y.2 q.1 q.2 = x.2 q.1 q.2) → U y

theorem Near.pure {x : Orc} {U : Orc → Prop} (h : ∀ y, U y) : Near x U :=
  ⟨[], [], by simp, by simp, fun y _ _ => h y⟩

theorem Near.mono {x : Orc} {U W : Orc → Prop} (h : Near x U) (k : ∀ y, U y → W y) : Near x W := by
  obtain ⟨L, M, a, b, c⟩ := h
  exact ⟨L, M, a, b, fun y p q => k y (c y p q)⟩

theorem Near.and {x : Orc} {U W : Orc → Prop} (h : Near x U) (k : Near x W) : Near x (fun y => U y ∧ W y) := by
  obtain ⟨L, M, a, b, c⟩ := h
  obtain ⟨L', M', a', b', c'⟩ := k
  refine ⟨L ++ L', M ++ M', ?_, ?_, fun y p q => ⟨c y (fun r hr => p r (by simp [hr])) (fun r hr => q r (by simp [hr])), c' y (fun r hr => p r (by simp [hr])) (fun r hr => q r (by simp [hr]))⟩⟩
  · intro q hq; rcases List.mem_append.1 hq with h | h
    · exact a q h
    · exact a' q h
  · intro q hq; rcases List.mem_append.1 hq with h | h
    · exact b q h
    · exact b' q h

theorem Near.map2 {x : Orc} {U V W : Orc → Prop} (h : Near x U) (k : Near x V) (f : ∀ y, U y → V y → W y) : Near x W :=
  (h.and k).mono fun y ⟨a, b⟩ => f y a b

theorem Near.call {x : Orc} {f : Nat} {vs : List V} {b : List Box} {r : V × List Box} (h : x.1 f vs b = some r) : Near x (fun y => y.1 f vs b = some r) :=
  ⟨[(f, vs, b)], [], by simp [h], by simp, fun y p _ => by simpa [h] using p (f, vs, b) (by simp)⟩

theorem Near.again {x : Orc} {w : Again} {s : St} {r : Ex × St} (h : x.2 w s = some r) : Near x (fun y => y.2 w s = some r) :=
  ⟨[], [(w, s)], by simp, by simp [h], fun y _ q => by simpa [h] using q (w, s) (by simp)⟩

theorem near_callP {x : Orc} {b : List Box} {f : Nat} {vs : List V} {r : V} (h : callP x.1 b f vs = some r) :
    Near x (fun y => callP y.1 b f vs = some r) := by
  unfold callP at *
  cases hf : freezeArgs b vs with
  | none => simp [hf] at h
  | some p =>
    simp only [hf] at h ⊢
    cases hc : x.1 f (p.1.map .d) [] with
    | none => simp [hc] at h
    | some q =>
      simp only [hc] at h
      exact (Near.call hc).mono fun y hy => by simp only [hy]; exact h

theorem near_callPX {x : Orc} {f : Nat} {vs : List V} {r : V} (h : callPX x.1 f vs = some r) :
    Near x (fun y => callPX y.1 f vs = some r) := by
  unfold callPX at *
  cases hc : x.1 f ((vs.map fun v => v.toD.getD .any).map .d) [] with
  | none => rw [hc] at h; simp at h
  | some q =>
    rw [hc] at h
    exact (Near.call hc).mono fun y hy => by rw [hy]; exact h

theorem near_callPO {x : Orc} {b : List Box} {f : Nat} {vs : List V} {r : V} (h : callPO x.1 b f vs = some r) :
    Near x (fun y => callPO y.1 b f vs = some r) := by
  unfold callPO at *
  cases hf : freezeArgs b vs with
  | none => simp [hf] at h
  | some p =>
    simp only [hf] at h ⊢
    cases hc : x.1 f (p.1.map .d) [] with
    | none => simp [hc] at h
    | some q =>
      simp only [hc] at h
      exact (Near.call hc).mono fun y hy => by simp only [hy]; exact h

theorem near_callSt {x : Orc} {b : List Box} {f : Nat} {vs : List V} {r : V × List Box} (h : callSt x.1 b f vs = some r) :
    Near x (fun y => callSt y.1 b f vs = some r) := by
  unfold callSt at *
  dsimp only at *
  split at h
  · rename_i hcond
    simp only [hcond, if_true]
    split at h
    · simp at h
    · rename_i hc
      exact (Near.call hc).mono fun y hy => by simp only [hy]; exact h
  · simp at h

theorem near_callRd {x : Orc} {base : Nat} {b : List Box} {f : Nat} {vs : List V} {r : V} (h : callRd x.1 base b f vs = some r) :
    Near x (fun y => callRd y.1 base b f vs = some r) := by
  unfold callRd at *
  dsimp only at *
  split at h
  · rename_i hcond
    simp only [hcond, if_true]
    split at h
    · simp at h
    · rename_i hc
      exact (Near.call hc).mono fun y hy => by simp only [hy]; exact h
  · simp at h

theorem near_run {x : Orc} {base : Nat} {g : Nat → V} {b : List Box} {k : AK} {r : V × List Box} (h : k.run base x.1 g b = some r) :
    Near x (fun y => k.run base y.1 g b = some r) := by
  cases k with
  | call f as =>
    simp only [AK.run] at *
    cases hc : callP x.1 b f (evbs g as) with
    | none => simp [hc] at h
    | some v => exact (near_callP hc).mono fun y hy => by simp only [hy]; simpa [hc] using h
  | invk tbl g' as =>
    simp only [AK.run] at *
    cases hg : ifaceOf (g'.evb g) with
    | none => simp [hg] at h
    | some p =>
      simp only [hg] at h ⊢
      cases ht : tblGet tbl p.1 with
      | none => simp [ht] at h
      | some f => simp only [ht] at h ⊢; exact near_callSt h
  | callSR f as =>
    simp only [AK.run] at *
    cases hc : callRd x.1 base b f (evX g as) with
    | none => simp [hc] at h
    | some v => exact (near_callRd hc).mono fun y hy => by simp only [hy]; simpa [hc] using h
  | callNV g' as =>
    simp only [AK.run] at *
    cases hg : funcOf (g'.evb g) with
    | none => simp [hg] at h
    | some p =>
      simp only [hg] at h ⊢
      cases hc : callSt x.1 b (fnNo p.1) (fnArgs p.1 (evX g as) p.2) with
      | none => simp [hc] at h
      | some v => exact (near_callSt hc).mono fun y hy => by simp only [hy]; simpa [hc] using h
  | callN f as =>
    simp only [AK.run] at *
    cases hc : callSt x.1 b f (evX g as) with
    | none => simp [hc] at h
    | some v => exact (near_callSt hc).mono fun y hy => by simp only [hy]; simpa [hc] using h
  | callVR g' as =>
    simp only [AK.run] at *
    cases hg : funcOf (g'.evb g) with
    | none => simp [hg] at h
    | some p =>
      simp only [hg] at h ⊢
      cases hc : callRd x.1 base b (fnNo p.1) (fnArgs p.1 (evX g as) p.2) with
      | none => simp [hc] at h
      | some v => exact (near_callRd hc).mono fun y hy => by simp only [hy]; simpa [hc] using h
  | callD f as =>
    simp only [AK.run] at *
    cases hc : callP x.1 [] f (evbs g as) with
    | none => simp [hc] at h
    | some v => exact (near_callP hc).mono fun y hy => by simp only [hy]; simpa [hc] using h
  | callX f as =>
    simp only [AK.run] at *
    cases hc : callPX x.1 f (evbs g as) with
    | none => simp [hc] at h
    | some v => exact (near_callPX hc).mono fun y hy => by simp only [hy]; simpa [hc] using h
  | callO f as =>
    simp only [AK.run] at *
    cases hc : callPO x.1 b f (evbs g as) with
    | none => simp [hc] at h
    | some v => exact (near_callPO hc).mono fun y hy => by simp only [hy]; simpa [hc] using h
  | callS f as => simp only [AK.run] at *; exact near_callSt h
  | callV g' as =>
    simp only [AK.run] at *
    cases hg : funcOf (g'.evb g) with
    | none => simp [hg] at h
    | some p =>
      simp only [hg] at h ⊢
      cases hc : callP x.1 b (fnNo p.1) (fnArgs p.1 (evbs g as) p.2) with
      | none => simp [hc] at h
      | some v => exact (near_callP hc).mono fun y hy => by simp only [hy]; simpa [hc] using h
  | callVS g' as =>
    simp only [AK.run] at *
    cases hg : funcOf (g'.evb g) with
    | none => simp [hg] at h
    | some p => simp only [hg] at h ⊢; exact near_callSt h
  | _ => exact Near.pure fun y => h

theorem near_step {x : Orc} {base : Nat} {o : AOp} {s s' : St} (h : o.step base x.1 s = some s') :
    Near x (fun y => o.step base y.1 s = some s') := by
  have key : ∀ {w}, (match o.k.run base x.1 s.g s.b with | some (v, b) => some (⟨putT (demote s.t o.k.takes) o.dst v, b⟩ : St) | none => none) = some w →
      Near x (fun y => (match o.k.run base y.1 s.g s.b with | some (v, b) => some (⟨putT (demote s.t o.k.takes) o.dst v, b⟩ : St) | none => none) = some w) := by
    intro w hw
    cases hr : o.k.run base x.1 s.g s.b with
    | none => simp [hr] at hw
    | some p => exact (near_run hr).mono fun y hy => by simp only [hy]; simpa [hr] using hw
  unfold AOp.step at *
  dsimp only at *
  cases hg : o.guard with
  | none => simp only [hg] at h ⊢; exact key h
  | some jw =>
    obtain ⟨j, want⟩ := jw
    simp only [hg] at h ⊢
    split at h
    · split at h
      · rename_i hw; simp only [hw, if_true]; exact key h
      · rename_i hw; simp only [hw]; exact Near.pure fun _ => h
    · exact Near.pure fun _ => h
    · simp at h

theorem near_runOps {x : Orc} {base : Nat} (l : List AOp) : ∀ {s s' : St}, runOps base x.1 l s = some s' →
    Near x (fun y => runOps base y.1 l s = some s') := by
  induction l with
  | nil => intro s s' h; exact Near.pure fun _ => h
  | cons o r ih =>
    intro s s' h
    simp only [runOps] at h
    cases hs : o.step base x.1 s with
    | none => simp [hs] at h
    | some s1 =>
      simp only [hs] at h
      exact (near_step hs).map2 (ih h) fun y a b => by simp only [runOps, a, b]

theorem near_runCode {x : Orc} (c : ACode) : ∀ {s : St} {r : Ex × St}, runCode x.1 x.2 c s = some r →
    Near x (fun y => runCode y.1 y.2 c s = some r) := by
  induction c with
  | skip | exit | label | goto | ret | bad => intro s r h; exact Near.pure fun _ => h
  | ops rs l =>
    intro s r h
    simp only [runCode] at *
    cases hs : runOps s.b.length x.1 l ⟨s.t, s.b ++ rs⟩ with
    | none => simp [hs] at h
    | some s1 => exact (near_runOps l hs).mono fun y hy => by simp only [hy]; simpa [hs] using h
  | seq a b iha ihb =>
    intro s r h
    simp only [runCode] at *
    cases hs : runCode x.1 x.2 a s with
    | none => simp [hs] at h
    | some p =>
      obtain ⟨e, s1⟩ := p
      cases e with
      | normal =>
        simp only [hs] at h
        exact (iha hs).map2 (ihb h) fun y p q => by simp only [p, q]
      | _ => exact (iha hs).mono fun y p => by simp only [p]; simpa [hs] using h
  | cond c a b iha ihb =>
    intro s r h
    simp only [runCode] at *
    split at h
    · exact iha h
    · exact ihb h
    · simp at h
  | block id c ih =>
    intro s r h
    simp only [runCode] at *
    cases hs : runCode x.1 x.2 c s with
    | none => simp [hs] at h
    | some p => exact (ih hs).mono fun y q => by simp only [q]; simpa [hs] using h
  | loop kn mask c ih => intro s r h; simp only [runCode] at *; exact Near.again h
  | scope c ih => intro s r h; simp only [runCode] at *; exact Near.again h

theorem near_lateEnd {x : Orc} {P : AProg} {F : LFunc} {u : V} {s1 : St} {r : V × List Box} (h : lateEnd P x.1 F u (runCode x.1 x.2 F.post s1) = some r) :
    Near x (fun y => lateEnd P y.1 F u (runCode y.1 y.2 F.post s1) = some r) := by
  have lc : ∀ {b b3 : List Box}, lateCall P x.1 F u b = some b3 → Near x (fun y => lateCall P y.1 F u b = some b3) := by
    intro b b3 h
    unfold lateCall at *
    split at h
    · simp at h
    · rename_i f caps hf
      split at h
      · rename_i hb
        simp only [hb, if_true]
        split at h
        · rename_i hn; simp only [hn, if_true]; exact Near.pure fun _ => h
        · rename_i hn
          simp only [hn, if_false]
          split at h
          · rename_i hc
            simp only [hc, if_true]
            split at h
            · rename_i q hq
              exact (near_callSt hq).mono fun y hy => by simp only [hy]; exact h
            · simp at h
          · simp at h
      · simp at h
  cases hs : runCode x.1 x.2 F.post s1 with
  | none => rw [hs] at h; simp [lateEnd] at h
  | some p =>
    obtain ⟨e, s2⟩ := p
    rw [hs] at h
    have key : (e = .normal ∨ e = .ret) → Near x (fun y => lateEnd P y.1 F u (runCode y.1 y.2 F.post s1) = some r) := by
      intro he
      have h' : (match lateCall P x.1 F u s2.b with
        | none => none
        | some b => match resultV ⟨s2.t, b⟩ F.results with
          | some v => some (v, b)
          | none => none) = some r := by rcases he with rfl | rfl <;> exact h
      split at h'
      · simp at h'
      · rename_i b3 hb3
        exact (near_runCode _ hs).map2 (lc hb3) fun y p q => by
          rw [p]
          rcases he with rfl | rfl <;> simp only [lateEnd, q] <;> exact h'
    cases e with
    | normal => exact key (.inl rfl)
    | ret => exact key (.inr rfl)
    | exit id => simp [lateEnd] at h
    | goto l => simp [lateEnd] at h

theorem near_runBody {x : Orc} {P : AProg} {f : Nat} {vs : List V} {b : List Box} {r : V × List Box} (h : runBody P x.1 x.2 f vs b = some r) :
    Near x (fun y => runBody P y.1 y.2 f vs b = some r) := by
  unfold runBody at *
  cases hf : P f with
  | none => simp [hf] at h
  | some K =>
    cases K with
    | spec k => simp only [hf] at h ⊢; exact Near.pure fun _ => h
    | late F =>
      simp only [hf] at h ⊢
      split at h
      · rename_i hle
        simp only [hle, if_true]
        split at h
        · rename_i s hs
          exact (near_runCode _ hs).mono fun y q => by simp only [q]; exact h
        · rename_i s hs
          split at h
          · rename_i s1 hs1
            exact (near_runCode _ hs).map2 ((near_runOps _ hs1).map2 (near_lateEnd h) fun y a b => And.intro a b) fun y q r => by simp only [q, r.1, r.2]
          · simp at h
        · simp at h
      · simp at h
    | code F =>
    simp only [hf] at h ⊢
    split at h
    · rename_i hle
      simp only [hle, if_true]
      cases hs : runCode x.1 x.2 F.body ⟨params vs 0, b⟩ with
      | none => simp [hs] at h
      | some p => exact (near_runCode _ hs).mono fun y q => by simp only [q]; rw [hs] at h; exact h
    · simp at h

theorem near_runAgain {x : Orc} {w : Again} {s : St} {r : Ex × St} (h : runAgain x.1 x.2 w s = some r) :
    Near x (fun y => runAgain y.1 y.2 w s = some r) := by
  unfold runAgain at *
  cases w with
  | loop kn mask n c =>
    simp only at h ⊢
    cases hs : runCode x.1 x.2 c s with
    | none => simp [hs] at h
    | some p =>
      obtain ⟨e, s1⟩ := p
      cases e with
      | normal =>
        simp only [hs] at h
        exact (near_runCode c hs).map2 (Near.again h) fun y p q => by simp only [p, q]
      | _ => exact (near_runCode c hs).mono fun y p => by simp only [p]; simpa [hs] using h
  | scope body c =>
    simp only at h ⊢
    cases hs : runCode x.1 x.2 c s with
    | none => simp [hs] at h
    | some p =>
      obtain ⟨e, s1⟩ := p
      cases e with
      | goto l =>
        simp only [hs] at h
        cases hl : findL body l with
        | none =>
          simp only [hl] at h
          exact (near_runCode c hs).mono fun y p => by simp only [p, hl]; exact h
        | some c' =>
          cases c' with
          | none => simp [hl] at h
          | some c' =>
            simp only [hl] at h
            exact (near_runCode c hs).map2 (Near.again h) fun y p q => by simp only [p, hl, q]
      | _ => exact (near_runCode c hs).mono fun y p => by simp only [p]; simpa [hs] using h

/-- More answers, the same ones. -/
def Orc.le (x y : Orc) : Prop := (∀ f vs b r, x.1 f vs b = some r → y.1 f vs b = some r) ∧ ∀ w s r, x.2 w s = some r → y.2 w s = some r

theorem Near.of_le {x y : Orc} {U : Orc → Prop} (h : Near x U) (hle : x.le y) : U y := by
  obtain ⟨L, M, a, b, c⟩ := h
  refine c y (fun q hq => ?_) (fun q hq => ?_)
  · obtain ⟨r, hr⟩ := Option.isSome_iff_exists.1 (a q hq); rw [hr]; exact hle.1 _ _ _ _ hr
  · obtain ⟨r, hr⟩ := Option.isSome_iff_exists.1 (b q hq); rw [hr]; exact hle.2 _ _ _ hr

theorem semN_le (P : AProg) : ∀ n, Orc.le (semN P n) (semN P (n + 1)) := by
  intro n
  induction n with
  | zero => exact ⟨fun _ _ _ _ h => by simp [semN] at h, fun _ _ _ h => by simp [semN] at h⟩
  | succ n ih => exact ⟨fun f vs b r h => (near_runBody h).of_le ih, fun w s r h => (near_runAgain h).of_le ih⟩

theorem Orc.le_trans {x y z : Orc} (h : x.le y) (k : y.le z) : x.le z :=
  ⟨fun f vs b r p => k.1 _ _ _ _ (h.1 _ _ _ _ p), fun w s r p => k.2 _ _ _ (h.2 _ _ _ p)⟩

theorem semN_mono (P : AProg) {n m : Nat} (h : n ≤ m) : Orc.le (semN P n) (semN P m) := by
  induction h with
  | refl => exact ⟨fun _ _ _ _ h => h, fun _ _ _ h => h⟩
  | step _ ih => exact Orc.le_trans ih (semN_le P _)

open Classical in
/-- What the runs with some fuel answer. -/
noncomputable def semC (P : AProg) : CallF := fun f vs b =>
  if h : ∃ n r, (semN P n).1 f vs b = some r then some (Classical.choose (Classical.choose_spec h)) else none

open Classical in
noncomputable def semA (P : AProg) : AgainF := fun w s =>
  if h : ∃ n r, (semN P n).2 w s = some r then some (Classical.choose (Classical.choose_spec h)) else none

theorem semC_iff {P : AProg} {f : Nat} {vs : List V} {b : List Box} {r : V × List Box} : semC P f vs b = some r ↔ ∃ n, (semN P n).1 f vs b = some r := by
  unfold semC
  constructor
  · intro h
    split at h
    · rename_i hex
      obtain rfl := Option.some.inj h
      exact ⟨_, Classical.choose_spec (Classical.choose_spec hex)⟩
    · simp at h
  · rintro ⟨n, h⟩
    have hex : ∃ n r, (semN P n).1 f vs b = some r := ⟨n, r, h⟩
    rw [dif_pos hex]
    have h2 := Classical.choose_spec (Classical.choose_spec hex)
    have a := (semN_mono P (Nat.le_max_left n (Classical.choose hex))).1 _ _ _ _ h
    have b := (semN_mono P (Nat.le_max_right n (Classical.choose hex))).1 _ _ _ _ h2
    rw [a] at b
    exact b.symm

theorem semA_iff {P : AProg} {w : Again} {s : St} {r : Ex × St} : semA P w s = some r ↔ ∃ n, (semN P n).2 w s = some r := by
  unfold semA
  constructor
  · intro h
    split at h
    · rename_i hex
      obtain rfl := Option.some.inj h
      exact ⟨_, Classical.choose_spec (Classical.choose_spec hex)⟩
    · simp at h
  · rintro ⟨n, h⟩
    have hex : ∃ n r, (semN P n).2 w s = some r := ⟨n, r, h⟩
    rw [dif_pos hex]
    have h2 := Classical.choose_spec (Classical.choose_spec hex)
    have a := (semN_mono P (Nat.le_max_left n (Classical.choose hex))).2 _ _ _ h
    have b := (semN_mono P (Nat.le_max_right n (Classical.choose hex))).2 _ _ _ h2
    rw [a] at b
    exact b.symm

theorem semN_sem (P : AProg) (n : Nat) : Orc.le (semN P n) (semC P, semA P) :=
  ⟨fun _ _ _ _ h => semC_iff.2 ⟨n, h⟩, fun _ _ _ h => semA_iff.2 ⟨n, h⟩⟩

theorem Near.fuel {P : AProg} {U : Orc → Prop} (h : Near (semC P, semA P) U) : ∃ n, U (semN P n) := by
  obtain ⟨L, M, a, b, c⟩ := h
  have hL : ∀ L : List (Nat × List V × List Box), (∀ q ∈ L, (semC P q.1 q.2.1 q.2.2).isSome) → ∃ n, ∀ m, n ≤ m → ∀ q ∈ L, (semN P m).1 q.1 q.2.1 q.2.2 = semC P q.1 q.2.1 q.2.2 := by
    intro L
    induction L with
    | nil => exact fun _ => ⟨0, by simp⟩
    | cons q L ih =>
      intro h
      obtain ⟨n, hn⟩ := ih fun q hq => h q (by simp [hq])
      obtain ⟨r, hr⟩ := Option.isSome_iff_exists.1 (h q (by simp))
      obtain ⟨k, hk⟩ := semC_iff.1 hr
      refine ⟨max n k, fun m hm q' hq' => ?_⟩
      rcases List.mem_cons.1 hq' with rfl | h'
      · rw [hr]; exact (semN_mono P (by omega)).1 _ _ _ _ hk
      · exact hn m (by omega) q' h'
  have hM : ∀ M : List (Again × St), (∀ q ∈ M, (semA P q.1 q.2).isSome) → ∃ n, ∀ m, n ≤ m → ∀ q ∈ M, (semN P m).2 q.1 q.2 = semA P q.1 q.2 := by
    intro M
    induction M with
    | nil => exact fun _ => ⟨0, by simp⟩
    | cons q M ih =>
      intro h
      obtain ⟨n, hn⟩ := ih fun q hq => h q (by simp [hq])
      obtain ⟨r, hr⟩ := Option.isSome_iff_exists.1 (h q (by simp))
      obtain ⟨k, hk⟩ := semA_iff.1 hr
      refine ⟨max n k, fun m hm q' hq' => ?_⟩
      rcases List.mem_cons.1 hq' with rfl | h'
      · rw [hr]; exact (semN_mono P (by omega)).2 _ _ _ hk
      · exact hn m (by omega) q' h'
  obtain ⟨n, hn⟩ := hL L a
  obtain ⟨k, hk⟩ := hM M b
  exact ⟨max n k, c _ (fun q hq => hn _ (by omega) q hq) (fun q hq => hk _ (by omega) q hq)⟩

/-- The equation of calls. -/
theorem semC_eq (P : AProg) (f : Nat) (vs : List V) (b : List Box) : semC P f vs b = runBody P (semC P) (semA P) f vs b := by
  cases h : runBody P (semC P) (semA P) f vs b with
  | some r =>
    obtain ⟨n, hn⟩ := (near_runBody (x := (semC P, semA P)) h).fuel
    exact semC_iff.2 ⟨n + 1, hn⟩
  | none =>
    cases h' : semC P f vs b with
    | none => rfl
    | some r =>
      obtain ⟨n, hn⟩ := semC_iff.1 h'
      cases n with
      | zero => simp [semN] at hn
      | succ n =>
        have := (near_runBody (x := semN P n) hn).of_le (semN_sem P n)
        rw [h] at this
        simp at this

/-- The equation of rounds. -/
theorem semA_eq (P : AProg) (w : Again) (s : St) : semA P w s = runAgain (semC P) (semA P) w s := by
  cases h : runAgain (semC P) (semA P) w s with
  | some r =>
    obtain ⟨n, hn⟩ := (near_runAgain (x := (semC P, semA P)) h).fuel
    exact semA_iff.2 ⟨n + 1, hn⟩
  | none =>
    cases h' : semA P w s with
    | none => rfl
    | some r =>
      obtain ⟨n, hn⟩ := semA_iff.1 h'
      cases n with
      | zero => simp [semN] at hn
      | succ n =>
        have := (near_runAgain (x := semN P n) hn).of_le (semN_sem P n)
        rw [h] at this
        simp at this

end Go.Abs

/-! From the loaded program's code to abstract code. What is not taken becomes 'bad', at which no run goes on. -/
namespace Go.Abs

structure Cfg where
  stf : List Nat          -- callees that are handed own boxes
  own : List Nat          -- callees that hand back a list that may be appended to
  anyA : List Nat         -- callees that do not look at their receiver
  dynS : Bool             -- function values are called with own boxes
  mutA : Bool             -- append makes arrays that may be written
  masks : List (List Nat) -- what each loop looks at, in the order of the text
  free : List Nat := []   -- variables that hold results, and are caught by a function: boxes like others
  mkO : Bool := false     -- an empty list that is made may be appended to
  slim : Bool := false    -- where the order is drawn, calls change small boxes alone

def agOf (P : Program) (t : TypeId) : Option (Bool × Nat) :=
  match P.underlying t, P.info? t with
  | some (.struct _), some i => some (true, i.size)
  | some (.array _ _), some i => some (true, i.size)
  | some _, some i => if i.size = 1 then some (false, 1) else none
  | _, _ => none

def elemOf (P : Program) (t : TypeId) : Option TypeId :=
  match P.underlying t with
  | some (.slice e) => some e
  | _ => none

def widthOf (P : Program) (t : TypeId) : Nat := ((P.info? t).map (·.size)).getD 0

/-- The width of the elements of a slice type; 0: it is none. -/
def zOf (P : Program) (t : TypeId) : Nat :=
  match elemOf P t with
  | some e => widthOf P e
  | none => 0

def constV (z : Nat) : Value → Option V
  | .int k n => some (.d (.int k n))
  | .bool b => some (.d (.bool b))
  | .string s => some (.d (.str s.data.toList))
  | .slice none 0 0 => some (.nil z)
  | .pointer none => some (.d .nilP)
  | .map none => some (.d (.fmap [] []))
  | .nilFunc => some (.d .nilF)
  | .nilIface => some (.d .nilI)
  | _ => none

def trOpd (P : Program) (t : TypeId) : Operand → Option Opd
  | .tmp n => some (.t n)
  | .const v => (constV (zOf P t) v).map .k
  | .func f => if f < bnd then some (.k (.d (.func f []))) else none
  | .global _ => none

def trOpds (P : Program) : List TypeId → List Operand → Option (List Opd)
  | _, [] => some []
  | ts, x :: r => match trOpd P (ts.headD 0) x with
    | none => none
    | some y => match trOpds P ts.tail r with
      | none => none
      | some ys => some (y :: ys)

def trOpdO (P : Program) (t : TypeId) : Option Operand → Option (Option Opd)
  | none => some none
  | some x => (trOpd P t x).map some

/-- The types of the cells of a variable. -/
def cellTypes (P : Program) : Nat → TypeId → List TypeId
  | 0, t => [t]
  | n + 1, t => match P.underlying t with
    | some (.struct fs) => fs.toList.flatMap fun f => cellTypes P n f.type
    | some (.array k e) => (List.replicate k (cellTypes P n e)).flatten
    | _ => [t]

def constVs : List Nat → List Value → Option (List V)
  | _, [] => some []
  | zs, v :: r => match constV (zs.headD 0) v with
    | none => none
    | some x => match constVs zs.tail r with
      | none => none
      | some xs => some (x :: xs)

def zeroV (P : Program) (t : TypeId) : Option (List V) :=
  match (P.info? t).bind (·.zero) with
  | some v => constVs ((cellTypes P 8 t).map (zOf P)) v.cells.toList
  | none => none

/-- Is an operand nil, of the kind that the type asks for? -/
def nilKind (P : Program) (t : TypeId) (x : Operand) : Option Nat :=
  match P.underlying t, x with
  | some (.slice _), .const (.slice none 0 0) => some 0
  | some (.pointer _), .const (.pointer none) => some 1
  | some (.map _ _), .const (.map none) => some 2
  | some (.func _ _ _), .const .nilFunc => some 3
  | some (.interface _), .const .nilIface => some 4
  | _, _ => none

def basicTy (P : Program) (t : TypeId) : Bool :=
  match P.underlying t with
  | some (.int _) | some .string => true
  | _ => false

def boolTy (P : Program) (t : TypeId) : Bool :=
  match P.underlying t with
  | some .bool => true
  | _ => false

def keyTy (P : Program) (t : TypeId) : Bool := basicTy P t || boolTy P t

def kindTy (P : Program) (t : TypeId) : Option Nat :=
  match P.underlying t with
  | some (.int _) => some 0
  | some .string => some 1
  | some .bool => some 2
  | _ => none

def rowKinds (P : Program) : Nat → List Field → Option (List Nat)
  | _, [] => some []
  | i, f :: r => if f.name ≠ "_" ∧ f.offset = i ∧ widthOf P f.type = 1 then
      match kindTy P f.type, rowKinds P (i + 1) r with
      | some k, some ks => some (k :: ks)
      | _, _ => none
    else none

/-- A struct of scalars, compared field by field: the kinds of its fields. -/
def rowTy (P : Program) (t : TypeId) : Option (List Nat) :=
  match P.underlying t with
  | some (.struct fs) => if P.stoodInHeld t then none else rowKinds P 0 fs.toList
  | _ => none

def fieldOf (P : Program) (s : TypeId) (i : Nat) : Option Field :=
  match P.underlying s with
  | some (.struct fs) => fs[i]?
  | _ => none

def partOf (P : Program) (t : TypeId) (i : Nat) : Option (Nat × TypeId) :=
  match P.underlying t with
  | some (.struct fs) => (fs[i]?).map fun f => (f.offset, f.type)
  | some (.array _ e) => some (i * widthOf P e, e)
  | _ => none

def trParts (P : Program) (t : TypeId) : List (Nat × Operand) → Option (List (Nat × Nat × Opd))
  | [] => some []
  | (i, x) :: r => match partOf P t i with
    | none => none
    | some (off, ft) => match trOpd P ft x with
      | none => none
      | some y => match trParts P t r with
        | none => none
        | some ys => some ((off, widthOf P ft, y) :: ys)

/-- The parts of a struct or array type have their rows. -/
def partsOk (P : Program) (t : TypeId) : Bool :=
  match P.underlying t with
  | some (.struct fs) => fs.toList.all fun f => (P.info? f.type).isSome
  | some (.array _ e) => (P.info? e).isSome
  | _ => false

def trLit (P : Program) (e : TypeId) : Nat → List (Nat × Operand) → Option (List Opd)
  | _, [] => some []
  | i, (j, x) :: r => if j = i then (match trOpd P e x with
    | none => none
    | some y => match trLit P e (i + 1) r with
      | none => none
      | some ys => some (y :: ys)) else none

def bytesOk (P : Program) (e : TypeId) : Bool :=
  match P.info? e with
  | some i => i.bytes ≤ 4096 && 0 < i.bytes && 0 < i.size && (match i.zero with | some z => z.cells.size == i.size | none => false)
  | none => false

def isPtrD : TypeDesc → Bool
  | .pointer _ => true
  | _ => false

/-- The function behind a method of a type, where it is called on the value itself. -/
def methOf (P : Program) (name : String) (t : TypeId) : Option Nat :=
  match P.info? t, P.underlying t with
  | some i, some u => match i.methods.find? (·.name == name) with
    | some m => match m.func with
      | some (f, false) => if m.path.isEmpty && !isPtrD u then some f else none
      | _ => none
    | none => none
  | _, _ => none

def methTable (P : Program) (name : String) : List (Nat × Nat) := (List.range P.types.size).filterMap fun t => (methOf P name t).map fun f => (t, f)

def trCall (P : Program) (cfg : Cfg) (c : Call) : Option AK :=
  match c.callee with
  | .builtin .append =>
    match c.args.toList, c.argTypes.toList with
    | [x, y], [t, u] => match elemOf P t, trOpd P t x, trOpd P u y with
      | some e, some x', some y' =>
        if bytesOk P e then
          match P.underlying u with
          | some (.slice _) => some (if cfg.mutA then .appM (widthOf P e) x' y' else .app (widthOf P e) x' y')
          | some (.int _) => match zeroV P e with
            | some z => if z.length = widthOf P e then some (.appZ (widthOf P e) z x' y') else none
            | none => none
          | _ => none
        else none
      | _, _, _ => none
    | _, _ => none
  | .builtin .len => match c.args.toList, c.argTypes.toList with
    | [x], [t] => match P.underlying t, trOpd P t x with
      | some .string, some x' => some (.len 0 x')
      | some (.slice _), some x' => some (.len 1 x')
      | some (.map _ _), some x' => some (.len 2 x')
      | _, _ => none
    | _, _ => none
  | .builtin .clear => match c.args.toList, c.argTypes.toList with
    | [x], [t] => match elemOf P t, trOpd P t x with
      | some e, some x' => match zeroV P e with
        | some z => if bytesOk P e = true ∧ z.length = widthOf P e then some (.clr (widthOf P e) z x') else none
        | none => none
      | _, _ => none
    | _, _ => none
  | .builtin .cap => match c.args.toList, c.argTypes.toList with
    | [x], [t] => match P.underlying t, trOpd P t x with
      | some (.slice _), some x' => some (.cap x')
      | _, _ => none
    | _, _ => none
  | .builtin .copy => match c.args.toList, c.argTypes.toList with
    | [x, y], [t, u] => match elemOf P t, elemOf P u, trOpd P t x, trOpd P u y with
      | some e, some _, some x', some y' => if bytesOk P e then some (.copy (widthOf P e) x' y') else none
      | _, _, _, _ => none
    | _, _ => none
  | .builtin .max => match c.args.toList, c.argTypes.toList with
    | [x, y], [t, u] => match trOpd P t x, trOpd P u y with
      | some x', some y' => some (.mm true x' y')
      | _, _ => none
    | _, _ => none
  | .builtin .min => match c.args.toList, c.argTypes.toList with
    | [x, y], [t, u] => match trOpd P t x, trOpd P u y with
      | some x', some y' => some (.mm false x' y')
      | _, _ => none
    | _, _ => none
  | .value (.func f) => match P.funcs[f]?, trOpds P c.argTypes.toList c.args.toList with
    | some fn, some as => if fn.name != "runtime.NumGoroutine" && fn.body.isSome then some (if cfg.stf.contains f then .callS f as else if cfg.own.contains f then .callO f as else if cfg.anyA.contains f then .callX f as else .call f as) else none
    | _, _ => none
  | .invoke recv name => match trOpd P 0 recv, trOpds P c.argTypes.toList c.args.toList with
    | some x, some as => some (.invk (methTable P name) x as)
    | _, _ => none
  | .value (.tmp t) => match trOpds P c.argTypes.toList c.args.toList with
    | some as => some (if cfg.dynS then .callVS (.t t) as else .callV (.t t) as)
    | none => none
  | _ => none

/-- Is the zero value a row, or one cell, as the type says? -/
def zeroShape (P : Program) (t : TypeId) (ag : Bool) : Bool :=
  match (P.info? t).bind (·.zero) with
  | some (.agg _) => ag
  | some _ => !ag
  | none => false

/-- Elements that may lead to own boxes: addresses, functions, interface values. -/
def wildTy (P : Program) (e : TypeId) : Bool :=
  match P.underlying e with
  | some (.pointer _) | some (.func _ _ _) | some (.interface _) => true
  | _ => false

/-- An empty literal as an array that may be written. -/
def trLit0 (P : Program) (t : TypeId) : Option AK :=
  match elemOf P t with
  | some e => match zeroV P e with
    | some z => if bytesOk P e && z.length = widthOf P e then some (.mkslice (widthOf P e) z (.k (.d (.int .i64 0))) (.k (.d (.int .i64 0)))) else none
    | none => none
  | none => none

def trOp (P : Program) (cfg : Cfg) (drawn : Bool) (nal : Nat) (o : Oper) : Option AK :=
  match o.op with
  | .move x => (trOpd P o.type x).map .mv
  | .assign x => match trOpd P o.type x with
    | some (.t n) => some (.tk n)
    | some y => some (.mv y)
    | none => none
  | .pick c a b => match trOpd P 0 c, trOpd P o.type a, trOpd P o.type b with
    | some c', some a', some b' => some (.pick c' a' b')
    | _, _, _ => none
  | .alloc e => match agOf P e, zeroV P e with
    | some (ag, n), some z => if z.length = n then some (if drawn then .allocR nal else .alloc ag z) else none
    | _, _ => none
  | .box e x => match agOf P e, trOpd P e x with
    | some (ag, n), some x' => some (.box ag n x')
    | _, _ => none
  | .build t ps => match agOf P t, zeroV P t, trParts P t ps.toList with
    | some (true, n), some z, some ps' => if z.length = n ∧ partsOk P t = true then some (.build z ps') else none
    | _, _, _ => none
  | .buildSlice t n ps => if cfg.mutA && n == 0 && ps.isEmpty then trLit0 P t else match elemOf P t with
    | some e => match trLit P e 0 ps.toList with
      | some ps' => if ps'.length = n && bytesOk P e && n * widthOf P e ≤ 65536 then some (if wildTy P e && decide (widthOf P e = 1) then .litM ps' else .lit (widthOf P e) ps') else none
      | none => none
    | none => none
  | .load t x => match agOf P t, trOpd P t x with
    | some (ag, n), some x' => some (.ld ag n x')
    | _, _ => none
  | .store t a x => match agOf P t, trOpd P 0 a, trOpd P t x with
    | some (ag, n), some a', some x' => some (.st ag n a' x')
    | _, _, _ => none
  | .nilCheck x => (trOpd P o.type x).map .nilck
  | .binOp op xt x y yt =>
    match trOpd P xt x, trOpd P yt y with
    | some x', some y' =>
      if (nilKind P xt y).isSome && (op matches .eql | .neq) then (nilKind P xt y).map fun k => .isNil k x' (op matches .neq)
      else if basicTy P xt then some (.bin op x' y')
      else if op matches .eql | .neq then
        if boolTy P xt then some (.eqB (op matches .neq) x' y') else (rowTy P xt).map fun ks => .eqRow ks (op matches .neq) x' y'
      else none
    | _, _ => none
  | .unOp .not _ x => (trOpd P o.type x).map .not
  | .unOp .neg _ x => (trOpd P o.type x).map .neg
  | .convert s d x => match P.underlying s, P.underlying d, trOpd P s x with
    | some (.int _), some (.int k), some x' => some (.conv k x')
    | some .string, some .string, some x' => some (.convS x')
    | _, _, _ => none
  | .makeFunc (.func f) fi caps => if f < bnd then (if fi.isEmpty then (trOpds P [] caps.toList).map (.fn f) else if caps.isEmpty then (trOpds P [] fi.toList).map (.fn (bnd + f)) else none) else none
  | .makeInterface t x => match P.underlying t with
    | some (.interface _) => none
    | some _ => if t < 2097152 then (trOpd P t x).map (.mkI t) else none
    | none => none
  | .makeMap _ none => some .mkmap
  | .makeSlice t l c => match elemOf P t with
    | some e => match zeroV P e, trOpd P 0 l, trOpd P 0 c with
      | some z, some l', some c' => if bytesOk P e && z.length = widthOf P e then some (if cfg.mkO then .mkO (widthOf P e) z l' c' else .mkslice (widthOf P e) z l' c') else none
      | _, _, _ => none
    | none => none
  | .slice t x lo hi mx => match trOpd P t x, trOpdO P 0 lo, trOpdO P 0 hi, trOpdO P 0 mx with
    | some x', some lo', some hi', some mx' => match P.underlying t with
      | some (.slice e) => if mx'.isSome && hi'.isNone || (P.info? e).isNone then none else some (.slice (widthOf P e) x' lo' hi' mx')
      | some .string => if mx'.isSome then none else some (.slStr x' lo' hi')
      | some (.array m e) => if mx'.isSome || (P.info? e).isNone then none else some (.slA m (widthOf P e) x' lo' hi')
      | _ => none
    | _, _, _, _ => none
  | .fieldAddr s x i => match fieldOf P s i, trOpd P 0 x with
    | some f, some x' => match agOf P f.type with
      | some (ag, n) => if 0 < n then some (.fa f.offset n ag x') else none
      | none => none
    | _, _ => none
  | .indexAddr t x i => match elemOf P t with
    | some e => match agOf P e, trOpd P t x, trOpd P 0 i with
      | some (ag, n), some x', some i' => if 0 < n then some (.ia n ag x' i') else none
      | _, _, _ => none
    | none => match P.underlying t with
      | some (.array m e) => match agOf P e, trOpd P 0 x, trOpd P 0 i with
        | some (ag, n), some x', some i' => if 0 < n then some (.iaA m n ag x' i') else none
        | _, _, _ => none
      | _ => none
  | .index t x i => match P.underlying t, trOpd P t x, trOpd P 0 i with
    | some .string, some x', some i' => some (.ixS x' i')
    | _, _, _ => none
  | .field s x i => match fieldOf P s i, trOpd P s x with
    | some f, some x' => match agOf P f.type with
      | some (ag, n) => if 0 < n then some (.fld f.offset n ag x') else none
      | none => none
    | _, _ => none
  | .lookup t m k ok => match P.underlying t with
    | some (.map kt vt) => match kindTy P kt, agOf P vt, zeroV P vt, trOpd P t m, trOpd P kt k with
      | some kd, some (ag, n), some z, some m', some k' =>
        if z.length = n ∧ zeroShape P vt ag = true then
          match toDs z with
          | some zs => if ag then some (.look kd ok (.agg zs) m' k') else (match zs with | [x] => some (.look kd ok x m' k') | _ => none)
          | none => none
        else none
      | _, _, _, _, _ => none
    | _ => none
  | .mapUpdate t m k v | .insert t m k v => match P.underlying t with
    | some (.map kt vt) => match kindTy P kt, trOpd P t m, trOpd P kt k, trOpd P vt v with
      | some kd, some m', some k', some v' => some (.mup kd m' k' v')
      | _, _, _, _ => none
    | _ => none
  | .extract x i => (trOpd P 0 x).map (.ext · i)
  | .call c => trCall P cfg c
  | _ => none

/-- The tmp of the guard, and what is wanted of it. -/
def trGuard (ops : Array Oper) (o : Oper) : Option (Option (Nat × Bool)) :=
  match o.guard with
  | none => some none
  | some (j, want) => match (ops[j]?).bind (·.dst) with
    | some t => some (some (t, want))
    | none => none

def guardOk (n : Nat) : Option (Nat × Bool) → Bool
  | some (j, _) => decide (j < n)
  | none => true

def isAlloc (o : Oper) : Bool := match o.op with | .alloc _ => true | _ => false

def dstOk (n : Nat) (o : Oper) : Bool := match o.dst with | none => true | some d => d < n

/-- The variables in memory that hold results: each with its kind and how many cells it has. -/
def regsOf (P : Program) : List ResultVar → List (Nat × Bool × Nat)
  | [] => []
  | .cell a t :: r => match agOf P t with
    | some (ag, n) => (a, ag, n) :: regsOf P r
    | none => regsOf P r
  | _ :: r => regsOf P r

def regAt (rs : List (Nat × Bool × Nat)) (a : Nat) : Option (Bool × Nat) := (rs.find? (·.1 == a)).map (·.2)

/-- An operation that makes such a variable, or stores into it: it writes a register. -/
def trReg (P : Program) (rs : List (Nat × Bool × Nat)) (ntmps : Nat) (o : Oper) : Option (Nat × AK) :=
  match o.op, o.dst with
  | .alloc e, some d => match regAt rs d, agOf P e, zeroV P e with
      | some (ag', n'), some (ag, n), some z => if z.length = n ∧ ag' = ag ∧ n' = n ∧ (z.all V.isCell) = true then some (d + ntmps, .ralloc ag z) else none
      | _, _, _ => none
  | .store t (.tmp a) x, none => match regAt rs a, agOf P t, trOpd P t x with
      | some (ag', n'), some (ag, n), some x' => if ag' = ag ∧ n' = n then some (a + ntmps, .rst (a + ntmps) ag n x') else none
      | _, _, _ => none
  | _, _ => none

def regFree (rs : List (Nat × Bool × Nat)) : Option Nat → Bool
  | some d => (regAt rs d).isNone
  | none => true

def badOp : AOp := { dst := none, guard := none, k := .bad }

def readsOk (n : Nat) (l : List Nat) : Bool := l.all (· < n)

def trOper (P : Program) (cfg : Cfg) (rs : List (Nat × Bool × Nat)) (ntmps : Nat) (drawn : Bool) (ops : Array Oper) (nal : Nat) (o : Oper) : AOp :=
  match trGuard ops o with
  | none => badOp
  | some gd =>
    if guardOk ntmps gd && dstOk ntmps o then
      match trReg P rs ntmps o with
      | some (d, .rst r ag n x) => if readsOk ntmps x.tmps && gd.isNone then { dst := some d, guard := gd, k := .rst r ag n x } else badOp
      | some (d, k) => if gd.isNone then { dst := some d, guard := gd, k := k } else badOp
      | none => match trOp P cfg drawn nal o with
        | some k => if readsOk ntmps k.reads && regFree rs o.dst then { dst := o.dst, guard := gd, k := k } else badOp
        | none => badOp
    else badOp

def trOps (P : Program) (cfg : Cfg) (rs : List (Nat × Bool × Nat)) (ntmps : Nat) (drawn : Bool) (ops : Array Oper) : Nat → List Oper → List AOp
  | _, [] => []
  | nal, o :: r => trOper P cfg rs ntmps drawn ops nal o :: trOps P cfg rs ntmps drawn ops (if isAlloc o then nal + 1 else nal) r

/-- Moves and loads whose value an operation of the same region takes over, hand on the right to append. -/
def retake (T : List Nat) (o : AOp) : AOp :=
  match o.k, o.dst with
  | .mv (.t x), some d => if T.contains d then { o with k := .tk x } else o
  | _, _ => o

def reload (T : List Nat) (o : AOp) : AOp :=
  match o.k, o.dst with
  | .ld false 1 x, some d => if T.contains d then { o with k := .ldT x } else o
  | _, _ => o

def strong : AK → List Nat
  | .app _ (.t x) _ => [x]
  | .st _ _ _ (.t x) => [x]
  | _ => []

def takesAll (l : List AOp) : List Nat := l.flatMap (·.k.takes)
def strongAll (l : List AOp) : List Nat := l.flatMap (strong ·.k)

def fixTakes (l : List AOp) : List AOp :=
  (l.map (reload (strongAll l))).map (retake (takesAll l))

/-- The boxes that a region which draws its order sets aside for its 'alloc's. -/
def reserved (P : Program) : List Oper → List Box
  | [] => []
  | o :: r => match o.op with
    | .alloc e => (match agOf P e, zeroV P e with
      | some (ag, _), some z => .cells ag z
      | _, _ => .dead) :: reserved P r
    | _ => reserved P r

inductive Cls where
  | s | q | r | l | m | t | x | w | k | n | y | z | a | b
  deriving DecidableEq

def AK.cls : AK → Cls
  | .len _ _ | .isNil _ _ _ | .nilck _ | .fa _ _ _ _ | .ia _ _ _ _ | .iaA _ _ _ _ _ | .slice _ _ _ _ _ | .slA _ _ _ _ _ => .q
  | .ld _ _ _ | .look _ _ _ _ _ | .call _ _ | .callX _ _ | .callO _ _ | .callV _ _ => .r
  | .app _ _ _ => .r
  | .ldG _ _ _ => .l
  | .ldN _ _ _ | .nilckN _ | .faN _ _ _ _ => .k
  | .callN _ _ | .callNV _ _ => .n
  | .callSR _ _ | .callVR _ _ => .m
  | .ldT _ => .t
  | .ldZ _ _ _ => .z
  | .stZ _ _ _ _ => .y
  | .ldA _ _ _ _ => .a
  | .stA _ _ _ _ => .b
  | .stR _ _ _ _ => .x
  | .alloc _ _ | .litM _ | .box _ _ _ | .st _ _ _ _ | .mkmap | .mkslice _ _ _ _ | .mup _ _ _ _ | .callS _ _ | .callVS _ _ | .invk _ _ _ | .appM _ _ _ | .appZ _ _ _ _ | .copy _ _ _ | .clr _ _ _ | .bad => .w
  | _ => .s

def clsOk : Cls → Cls → Bool
  | .s, _ | _, .s => true
  | .q, .q | .q, .r | .r, .q | .q, .l | .l, .q | .q, .t | .t, .q | .q, .x | .x, .q => true
  | .r, .r | .r, .t | .t, .r | .r, .l | .l, .r => true
  | .l, .l | .l, .t | .t, .l | .l, .x | .x, .l => true
  | .z, .z | .z, .q | .q, .z | .z, .y | .y, .z | .q, .y | .y, .q => true
  | .a, .a | .a, .q | .q, .a | .a, .b | .b, .a | .q, .b | .b, .q => true
  | .k, .k | .k, .q | .q, .k | .n, .k | .k, .n => true
  | .m, .m | .m, .q | .q, .m | .m, .r | .r, .m | .m, .l | .l, .m | .m, .x | .x, .m => true
  | _, _ => false

/-- What is read is not what is written. -/
def pairOk : AK → AK → Bool
  | .ldA as _ _ _, .stA _ _ (.t a) _ => as.contains a
  | .stA _ _ (.t a) _, .ldA as _ _ _ => as.contains a
  | .ldA _ _ _ _, .stA _ _ _ _ => false
  | .stA _ _ _ _, .ldA _ _ _ _ => false
  | _, _ => true

def AOp.looks (o : AOp) : List Nat := o.k.reads ++ (match o.guard with | some (j, _) => [j] | none => [])

/-- May two operations change places? -/
def indep (x y : AOp) : Bool :=
  clsOk x.k.cls y.k.cls && pairOk x.k y.k &&
  (match x.dst with | some d => !(y.looks.contains d) && y.dst != some d | none => true) &&
  (match y.dst with | some d => !(x.looks.contains d) | none => true) &&
  x.k.takes.all (fun t => !(y.k.takes.contains t))

/-- What each operation stands behind, however the order is drawn: bit masks. -/
def behind (ops : Array Oper) : Array Nat :=
  ops.foldl (init := #[]) fun acc o =>
    acc.push (o.after.foldl (fun s e => if Region.binds .any e then s ||| 2 ^ e.on ||| acc.getD e.on 0 else s) 0)

/-- Every operation stands behind earlier ones alone. -/
def backward (ops : Array Oper) : Bool :=
  (List.range ops.size).all fun j => match ops[j]? with
    | some o => o.after.toList.all fun e => !Region.binds .any e || decide (e.on < j)
    | none => true

def drawOk (ops : Array Oper) (l : List AOp) : Bool :=
  let bs := behind ops
  backward ops && (List.range ops.size).all fun j => (List.range j).all fun i =>
    (bs.getD j 0).testBit i || (match l[i]?, l[j]? with | some x, some y => indep x y | _, _ => false)

/-- Where the order of a region is drawn, its own boxes ('own': where they lie) are told from the others. -/
def strictOp (own : List Nat) (A : AOp) : AOp :=
  match A.k with
  | .ld ag n x => { A with k := .ldG ag n x }
  | .st ag n (.t a) x => if own.contains a then { A with k := .stR ag n (.t a) x } else A
  | .call f as => { A with k := .callD f as }
  | .callS f as => { A with k := .callSR f as }
  | .callVS h as => { A with k := .callVR h as }
  | _ => A

def ownOf : List AOp → List Nat
  | [] => []
  | A :: r => match A.k, A.dst with
    | .allocR _, some d => d :: ownOf r
    | _, _ => ownOf r

/-- Stricter operations where the order is left open. -/
def strict (l : List AOp) : List AOp := l.map (strictOp (ownOf l))

/-- Where calls change small boxes alone, and the others are read. -/
def narrowOp (A : AOp) : AOp :=
  match A.k with
  | .ld ag n x => { A with k := .ldN ag n x }
  | .nilck x => { A with k := .nilckN x }
  | .fa off n ag x => { A with k := .faN off n ag x }
  | .ia z ag x i => { A with k := .iaN z ag x i }
  | .call f as => { A with k := .callD f as }
  | .callS f as => { A with k := .callN f as }
  | .callVS h as => { A with k := .callNV h as }
  | _ => A

def narrow (l : List AOp) : List AOp := l.map narrowOp

/-- Where small boxes are read and greater ones written. -/
def zonedOp (A : AOp) : AOp :=
  match A.k with
  | .ld ag n x => { A with k := .ldZ ag n x }
  | .st ag n a x => { A with k := .stZ ag n a x }
  | _ => A

def zoned (l : List AOp) : List AOp := l.map zonedOp

def storesTo : List AOp → List Nat
  | [] => []
  | A :: r => match A.k with
    | .st _ _ (.t a) _ => a :: storesTo r
    | _ => storesTo r

/-- Where what is read and what is written are told apart when the region is run. -/
def apartOp (S : List Nat) (A : AOp) : AOp :=
  match A.k with
  | .ld ag n (.t x) => { A with k := .ldA (S.filter (· != x)) ag n (.t x) }
  | .st ag n (.t a) x => { A with k := .stA ag n (.t a) x }
  | _ => A

def aparts (l : List AOp) : List AOp := l.map (apartOp (storesTo l))

def drawn (nw : Bool) (ops : Array Oper) (l : List AOp) : List AOp :=
  if nw && drawOk ops (narrow (fixTakes l)) then narrow (fixTakes l) else if drawOk ops (fixTakes l) then fixTakes l else if drawOk ops (strict (fixTakes l)) then strict (fixTakes l) else if drawOk ops (zoned (fixTakes l)) then zoned (fixTakes l) else if drawOk ops (aparts l) then aparts l else strict l

def trCode (P : Program) (cfg : Cfg) (rs : List (Nat × Bool × Nat)) (ntmps : Nat) : List (List Nat) → Code → ACode × List (List Nat)
  | ms, .skip => (.skip, ms)
  | ms, .region _ ops draw =>
    let l := trOps P cfg rs ntmps draw ops 0 ops.toList
    (if draw then (let l' := drawn cfg.slim ops l; if drawOk ops l' then .ops (reserved P ops.toList) l' else .bad) else .ops [] (fixTakes l), ms)
  | ms, .seq a b => let x := trCode P cfg rs ntmps ms a; let y := trCode P cfg rs ntmps x.2 b; (.seq x.1 y.1, y.2)
  | ms, .cond c a b => match trOpd P 0 c with
    | some c' => if readsOk ntmps c'.tmps then let x := trCode P cfg rs ntmps ms a; let y := trCode P cfg rs ntmps x.2 b; (.cond c' x.1 y.1, y.2) else (.bad, ms)
    | none => (.bad, ms)
  | ms, .block id c => let x := trCode P cfg rs ntmps ms c; (.block id x.1, x.2)
  | ms, .loop c => let x := trCode P cfg rs ntmps ms.tail c; (.loop (if cfg.mutA then 0 else ntmps) (ms.headD []) x.1, x.2)
  | ms, .exit id => (.exit id, ms)
  | ms, .scope c => let x := trCode P cfg rs ntmps ms c; (.scope x.1, x.2)
  | ms, .label l => (.label l, ms)
  | ms, .goto l => (.goto l, ms)
  | ms, .ret => (.ret, ms)
  | ms, _ => (.bad, ms)

/-- Does a region end with a deferred call of a function value without arguments? -/
def lateOf (N : Nat) (ops : Array Oper) : Option Nat :=
  match ops.toList.getLast? with
  | some o => match o.op, o.dst, o.guard with
    | .defer c, none, none => match c.callee, c.args.toList with
      | .value (.tmp t), [] => if t < N then some t else none
      | _, _ => none
    | _, _, _ => none
  | none => none

/-- A row of code parts, of which one ends with a deferred call. -/
def trLateC (P : Program) (cfg : Cfg) (rs : List (Nat × Bool × Nat)) (N : Nat) : List (List Nat) → Code → Option (ACode × List AOp × Opd × ACode)
  | ms, .seq (.region _ ops false) c => match lateOf N ops with
    | some t => some (.skip, (fixTakes (trOps P cfg rs N false ops 0 ops.toList)).dropLast, .t t, (trCode P cfg rs N ms c).1)
    | none => match trLateC P cfg rs N ms c with
      | some (p, l, x, q) => some (.seq (.ops [] (fixTakes (trOps P cfg rs N false ops 0 ops.toList))) p, l, x, q)
      | none => none
  | ms, .seq a c => match trLateC P cfg rs N (trCode P cfg rs N ms a).2 c with
    | some (p, l, x, q) => some (.seq (trCode P cfg rs N ms a).1 p, l, x, q)
    | none => none
  | _, _ => none

def resTmps (P : Program) (rs : List (Nat × Bool × Nat)) (n : Nat) : List ResultVar → Option (List Res)
  | [] => some []
  | .tmp t :: r => if t < n then (resTmps P rs n r).map (.tmp t :: ·) else none
  | .cell a t :: r => match agOf P t, resTmps P rs n r with
    | some x, some l => if regAt rs a = some x ∧ a < n then some (.reg (a + n) :: l) else if a < n then some (.cel a x.1 x.2 :: l) else none
    | _, _ => none

def lowOf (n : Nat) : List (Nat × Bool × Nat) → Nat
  | [] => n
  | r :: l => min r.1 (lowOf n l)

/-- Without those that are caught. -/
def regsC (P : Program) (cfg : Cfg) (rs : List ResultVar) : List (Nat × Bool × Nat) := (regsOf P rs).filter fun r => !cfg.free.contains r.1

def regsLt (n : Nat) (rs : List (Nat × Bool × Nat)) : Bool := rs.all fun r => decide (r.1 < n)

def trFunc (P : Program) (cfg : Cfg) (fn : Func) : Option AFunc :=
  match fn.body, resTmps P (regsC P cfg fn.results.toList) fn.ntmps fn.results.toList with
  | some c, some rs => if regsLt fn.ntmps (regsC P cfg fn.results.toList) then some { low := lowOf fn.ntmps (regsC P cfg fn.results.toList), results := rs, body := (trCode P cfg (regsC P cfg fn.results.toList) fn.ntmps cfg.masks c).1 } else none
  | _, _ => none

def trLate (P : Program) (cfg : Cfg) (noop : Option Nat) (fn : Func) : Option LFunc :=
  match fn.body, resTmps P (regsC P cfg fn.results.toList) fn.ntmps fn.results.toList with
  | some c, some rs => if regsLt fn.ntmps (regsC P cfg fn.results.toList) then
      (match trLateC P cfg (regsC P cfg fn.results.toList) fn.ntmps cfg.masks c with
      | some (p, l, x, q) => some { low := lowOf fn.ntmps (regsC P cfg fn.results.toList), results := rs, pre := p, ops := l, x := x, post := q, noop := noop }
      | none => none) else none
  | _, _ => none

end Go.Abs
