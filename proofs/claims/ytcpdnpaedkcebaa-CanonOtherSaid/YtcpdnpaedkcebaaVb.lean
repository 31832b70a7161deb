/- A small calculus over the model, two: the compact code and what each of its operations does to abstract slots and blocks. -/
import Derived.Test.YtcpdnpaedkcebaaVa
namespace Go.Proofs.Ytcpdnpaedkcebaa.V
open Go Go.RowKit
set_option linter.unusedVariables false
set_option linter.unusedSimpArgs false

inductive Opd where
  | t (n : Nat)
  | c (v : CV)
def val (σ : List (Nat × AV)) : Opd → AV
  | .t n => Slots.get σ n
  | .c v => .c v

/-- What goes in and comes out of a call: closed values; rows and variables that are handed over. -/
inductive OC where
  | cv (v : CV)
  | own (esz : Nat) (xs : List CV)
inductive Arg where
  | cv (v : CV)
  | own (esz : Nat) (xs : List CV)
  | mutr (esz : Nat) (xs : List CV)
  | obj (cs : List OC)
def Arg.lent : Arg → Bool
  | .mutr _ _ => true
  | .obj _ => true
  | _ => false
structure Out where
  res : List OC
  back : List (List OC)

def OC.av (id : Nat) : OC → AV
  | .cv v => .c v
  | .own _ xs => .osl id 0 xs.length
def OC.ob (id : Nat) : OC → List (Nat × LObj)
  | .cv _ => []
  | .own e xs => [(id, .row e xs)]
def cellsAV (base : Nat) : List OC → Nat → List AV
  | [], _ => []
  | c :: cs, k => c.av (base + 1 + k) :: cellsAV base cs (k + 1)
def cellsOb (base : Nat) : List OC → Nat → List (Nat × LObj)
  | [], _ => []
  | c :: cs, k => c.ob (base + 1 + k) ++ cellsOb base cs (k + 1)
def Arg.av (id : Nat) : Arg → AV
  | .cv v => .c v
  | .own _ xs => .osl id 0 xs.length
  | .mutr _ xs => .osl id 0 xs.length
  | .obj _ => .ref id 0
def Arg.ob (id : Nat) : Arg → List (Nat × LObj)
  | .cv _ => []
  | .own e xs => [(id, .row e xs)]
  | .mutr e xs => [(id, .row e xs)]
  | .obj cs => (id, .obj (cellsAV id cs 0)) :: cellsOb id cs 0
def argsAV (base : Nat) : List Arg → Nat → List AV
  | [], _ => []
  | a :: as, j => a.av (base + 64 * j) :: argsAV base as (j + 1)
def argsOb (base : Nat) : List Arg → Nat → List (Nat × LObj)
  | [], _ => []
  | a :: as, j => a.ob (base + 64 * j) ++ argsOb base as (j + 1)
def slotsOf : List AV → Nat → List (Nat × AV)
  | [], _ => []
  | a :: as, j => (j, a) :: slotsOf as (j + 1)

def retBase : Nat := 5000000
/-- What a call leaves, as arguments for who called: the results at retBase, what is given back where it was. -/
def OC.arg : OC → Arg
  | .cv v => .cv v
  | .own e xs => .own e xs
/-- What is given back, in the arguments' places. -/
def backArgs : List Arg → List (List OC) → List Arg
  | .obj _ :: as, b :: bs => .obj b :: backArgs as bs
  | .mutr _ _ :: as, [.own e xs] :: bs => .mutr e xs :: backArgs as bs
  | .cv _ :: as, bs => .cv .undef :: backArgs as bs
  | .own _ _ :: as, bs => .cv .undef :: backArgs as bs
  | _, _ => []
/-- As many are given back as were lent, of the same shapes. -/
def backOK : List Arg → List (List OC) → Prop
  | .obj cs :: as, b :: bs => b.length = cs.length ∧ backOK as bs
  | .mutr e xs :: as, [.own e' ys] :: bs => e' = e ∧ ys.length = xs.length ∧ backOK as bs
  | .cv _ :: as, bs => backOK as bs
  | .own _ _ :: as, bs => backOK as bs
  | [], [] => True
  | _, _ => False
def retAV (res : List OC) : AV :=
  match res with
  | [r] => r.av retBase
  | rs => .tup (argsAV retBase (rs.map OC.arg) 0)
def retOb (args : List Arg) (out : Out) : List (Nat × LObj) :=
  argsOb retBase (out.res.map OC.arg) 0 ++ argsOb argBase (backArgs args out.back) 0

def Handed (ι : Nat → Loc) (H : List (Nat × LObj)) (b : Nat) : Prop := ∃ id, Owned ι H id ∧ (ι id).block = b

/-- A function with a body of its own. -/
def isFn (P : Program) (f : FuncId) : Bool :=
  match P.funcs[f]? with
  | some fn => fn.name != "runtime.NumGoroutine" && fn.body.isSome
  | none => false

/-- The contract of a call: with these arguments it returns this, whatever the world, whatever the order. -/
def CW (P : Program) (f : FuncId) (args : List Arg) (out : Out) : Prop :=
  isFn P f = true ∧ backOK args out.back ∧
  ∀ (ι : Nat → Loc) (S : Nat → Prop) (w : World) (vals : List Value), vals.length = args.length →
    (∀ j, j < args.length → AVR ι (argsOb argBase args 0) S w ((argsAV argBase args 0).getD j (.c .undef)) (vals.getD j Go.undef)) →
    HR ι S (argsOb argBase args 0) w →
    Calls P f vals.toArray w fun e w' => ∃ v ι' S', e = .returned v ∧
      AVR ι' (retOb args out) S' w' (retAV out.res) v ∧ HR ι' S' (retOb args out) w' ∧
      (∀ j, j < args.length → ι' (argBase + 64 * j) = ι (argBase + 64 * j) ∨ (args.getD j (.cv .undef)).lent = false) ∧
      (∀ id, Owned ι' (retOb args out) id → Handed ι (argsOb argBase args 0) (ι' id).block ∨ w.heap.size ≤ (ι' id).block) ∧
      (∀ b, S b → S' b) ∧ (∀ b, S' b → S b ∨ Handed ι (argsOb argBase args 0) b ∨ w.heap.size ≤ b) ∧
      Fr (Handed ι (argsOb argBase args 0)) w w'

/-- The contract of a call that gives up: it panics with this number of this type. -/
def CWp (P : Program) (f : FuncId) (args : List Arg) (t : TypeId) (k : IntKind) (n : Int) : Prop :=
  isFn P f = true ∧
  ∀ (ι : Nat → Loc) (S : Nat → Prop) (w : World) (vals : List Value), vals.length = args.length →
    (∀ j, j < args.length → AVR ι (argsOb argBase args 0) S w ((argsAV argBase args 0).getD j (.c .undef)) (vals.getD j Go.undef)) →
    HR ι S (argsOb argBase args 0) w →
    Calls P f vals.toArray w fun e w' => e = .panicked [{ v := .iface t (.int k n), recovered := false }] ∧ Fr (Handed ι (argsOb argBase args 0)) w w'

inductive Mode where
  | plain
  | view (esz : Nat)
  | move (esz : Nat)
  | mutr
  | ptr (ms : List (Option Nat))

inductive Ins where
  | mv (x : Opd)
  | pick (c x y : Opd)
  | bin (op : BinOp) (x y : Opd)
  | not (x : Opd)
  | cpl (x : Opd)
  | conv (k : IntKind) (x : Opd)
  | b2s (x : Opd)
  | s2b (x : Opd)
  | len (str : Bool) (x : Opd)
  | mn (x y : Opd)
  | mx (x y : Opd)
  | ext (x : Opd) (i : Nat)
  | sidx (x i : Opd)
  | aidx (n : Nat) (x i : Opd)
  | fa (x : Opd) (off : Nat)
  | ia (x i : Opd) (esz : Nat)
  | ld (x : Opd) (n : Option Nat)
  | st (x v : Opd) (n : Option Nat)
  | nck (x : Opd)
  | alloc (z : List CV)
  | box (x : Opd)
  | bld (z : List CV) (ps : List (Nat × Opd))
  | bsl (esz : Nat) (ps : List Opd)
  | slc (x : Opd) (lo hi mx : Option Opd) (esz : Nat)
  | ssl (x : Opd) (lo hi : Option Opd)
  | app (x y : Opd) (esz bytes : Nat) (str : Bool)
  | call (f : Opd) (as : List (Opd × Mode))
  | isnil (x : Opd) (neg : Bool)
  | beq (x y : Opd)
  | bne (x y : Opd)
  | mks (n : Nat) (z : CV)

structure IOp where
  d : Option Nat
  u : Nat
  g : Option (Nat × Bool)
  io : Ins

/-- A value that is there only under a guard, used under a guard. -/
def ungW (g : Prop) (v : AV) (K : AV → Prop) : Prop :=
  match v with
  | .grd b v => (g → b = true) ∧ K v
  | v => K v

def pickW (g0 : Prop) (t : Bool) (x y : AV) (K : AV → Prop) : Prop :=
  match x, y with
  | .c (.bool p), .c (.bool q) => K (.c (.bool (if t then p else q)))
  | .grd g (.c (.bool p)), .c (.bool q) => (g0 → t = true → g = true) ∧ K (.c (.bool (if t then p else q)))
  | .c (.bool p), .grd g (.c (.bool q)) => (g0 → t = false → g = true) ∧ K (.c (.bool (if t then p else q)))
  | .grd g (.c (.bool p)), .grd g' (.c (.bool q)) => (g0 → t = true → g = true) ∧ (g0 → t = false → g' = true) ∧ K (.c (.bool (if t then p else q)))
  | .c (.bool p), _ => (g0 → t = true) ∧ K (.c (.bool p))
  | _, .c (.bool q) => (g0 → t = false) ∧ K (.c (.bool q))
  | .grd g (.c (.bool p)), _ => (g0 → t = true ∧ g = true) ∧ K (.c (.bool p))
  | _, .grd g (.c (.bool q)) => (g0 → t = false ∧ g = true) ∧ K (.c (.bool q))
  | _, _ => False

def bitI (op : BinOp) (k : IntKind) (x y : Int) : Int :=
  match op with
  | .and => k.wrap ((BitVec.ofInt k.bits x &&& BitVec.ofInt k.bits y).toNat : Int)
  | .or => k.wrap ((BitVec.ofInt k.bits x ||| BitVec.ofInt k.bits y).toNat : Int)
  | _ => k.wrap ((BitVec.ofInt k.bits x ^^^ BitVec.ofInt k.bits y).toNat : Int)

def binI (g : Prop) (op : BinOp) (k : IntKind) (x y : Int) (K : CV → Prop) : Prop :=
  match op with
  | .add => K (.int k (k.wrap (x + y)))
  | .sub => K (.int k (k.wrap (x - y)))
  | .mul => K (.int k (k.wrap (x * y)))
  | .quo => (g → y ≠ 0) ∧ K (.int k (k.wrap (x.tdiv y)))
  | .rem => (g → y ≠ 0) ∧ K (.int k (x.tmod y))
  | .and => K (.int k (bitI .and k x y))
  | .or => K (.int k (bitI .or k x y))
  | .xor => K (.int k (bitI .xor k x y))
  | .eql => K (.bool (x == y))
  | .neq => K (.bool (x != y))
  | .lss => K (.bool (decide (x < y)))
  | .leq => K (.bool (decide (x ≤ y)))
  | .gtr => K (.bool (decide (x > y)))
  | .geq => K (.bool (decide (x ≥ y)))
  | _ => False
def shI (g : Prop) (op : BinOp) (k : IntKind) (x y : Int) (K : CV → Prop) : Prop :=
  match op with
  | .shl => (g → 0 ≤ y) ∧ K (.int k (k.wrap (x * 2 ^ (min y.toNat k.bits))))
  | _ => (g → 0 ≤ y) ∧ K (.int k (x.fdiv (2 ^ (min y.toNat k.bits))))
def binS (op : BinOp) (x y : ByteArray) (K : CV → Prop) : Prop :=
  match op with
  | .eql => K (.bool (x.toList == y.toList))
  | .neq => K (.bool (!(x.toList == y.toList)))
  | _ => False
def binF (op : BinOp) (x y : Nat) (K : CV → Prop) : Prop :=
  match op with
  | .eql => K (.bool (FloatKind.format .f64 |>.order x y |> (· == some .eq)))
  | .neq => K (.bool (FloatKind.format .f64 |>.order x y |> (· != some .eq)))
  | _ => False
def binW (g : Prop) (op : BinOp) (x y : AV) (K : CV → Prop) : Prop :=
  ungW g x fun x => ungW g y fun y =>
  match x, y with
  | .c (.int k a), .c (.int k' b) =>
    match op with
    | .shl => shI g .shl k a b K
    | .shr => shI g .shr k a b K
    | op => k = k' ∧ binI g op k a b K
  | .c (.str a), .c (.str b) => binS op a b K
  | .c (.flt a), .c (.flt b) => binF op a b K
  | _, _ => False

def u8 (b : UInt8) : CV := .int .u8 b.toNat
def mkStr (xs : List CV) : ByteArray := ⟨(xs.map fun | .int _ n => UInt8.ofNat n.toNat | _ => 0).toArray⟩
def isU8 : CV → Prop
  | .int .u8 n => True
  | _ => False
def strCells (s : ByteArray) : List CV := s.data.toList.map u8

def lenW (g : Prop) (H : List (Nat × LObj)) (str : Bool) (x : AV) (K : Nat → Prop) : Prop :=
  ungW g x fun x =>
  match str, x with
  | true, .c (.str s) => K s.size
  | false, .c .nilsl => K 0
  | false, .c (.sl _ xs) => K xs.length
  | false, .osl i off len =>
    match LH.get H i with
    | some (.row _ xs) => K len
    | some (.vrow _ xs) => K len
    | _ => False
  | _, _ => False

/-- The elements of a slice, or of a string. -/
def elemsW (H : List (Nat × LObj)) (str : Bool) (esz : Nat) (x : AV) (K : List CV → Prop) : Prop :=
  match x with
  | .c .nilsl => K []
  | .c (.sl s xs) => s = esz ∧ K xs
  | .c (.str s) => (str = true ∧ esz = 1) ∧ K (strCells s)
  | .osl i off len =>
    match LH.get H i with
    | some (.row e xs) => e = esz ∧ K ((xs.drop off).take len)
    | some (.vrow e xs) => e = esz ∧ K ((xs.drop off).take len)
    | _ => False
  | _ => False

def setC (x : CV) (f : Nat) (v : CV) : CV :=
  match x with
  | .agg cs => .agg (cs.set f v)
  | _ => v

/-- The closed values of slots, if they are closed. -/
def closedW : List AV → (List CV → Prop) → Prop
  | [], K => K []
  | .c v :: l, K => closedW l fun vs => K (v :: vs)
  | _ :: _, _ => False

def ldRow (g : Prop) (e : Nat) (x : CV) (f : Nat) (n : Option Nat) (K : AV → Prop) : Prop :=
  match n with
  | none => (g → f < e) ∧ K (.c (x.cells.getD f .undef))
  | some n => (g → f + n ≤ e) ∧ K (.c (.agg ((x.cells.drop f).take n)))

def loadW (g : Prop) (H : List (Nat × LObj)) (x : AV) (n : Option Nat) (K : AV → Prop) : Prop :=
  ungW g x fun x =>
  match x with
  | .ref i off =>
    match LH.get H i with
    | some (.obj cs) =>
      match n with
      | none => off < cs.length ∧ K (cs.getD off (.c .undef))
      | some n => off + n ≤ cs.length ∧ closedW ((cs.drop off).take n) fun vs => K (.c (.agg vs))
    | _ => False
  | .eptr i idx f =>
    match LH.get H i with
    | some (.row e xs) => ldRow g e (xs.getD idx .undef) f n K
    | some (.vrow e xs) => ldRow g e (xs.getD idx .undef) f n K
    | _ => False
  | .vptr cs =>
    match n with
    | none => (g → 0 < cs.length) ∧ K (.c (cs.getD 0 .undef))
    | some n => (g → n ≤ cs.length) ∧ K (.c (.agg (cs.take n)))
  | _ => False

/-- What may be stored in one cell. -/
def storable (H : List (Nat × LObj)) : AV → Prop
  | .c v => v.one = true
  | .osl i _ _ =>
    match LH.get H i with
    | some (.row _ _) => True
    | some (.vrow _ _) => True
    | _ => False
  | .ref i _ =>
    match LH.get H i with
    | some (.obj _) => True
    | _ => False
  | _ => False

def storeW (H : List (Nat × LObj)) (x v : AV) (n : Option Nat) (K : List (Nat × LObj) → Prop) : Prop :=
  match x with
  | .ref i off =>
    match LH.get H i with
    | some (.obj cs) =>
      match n with
      | none => off < cs.length ∧ storable H v ∧ K [(i, .obj (cs.set off v))]
      | some n =>
        match v with
        | .c (.agg vs) => (vs.length = n ∧ off + n ≤ cs.length ∧ ∀ c ∈ vs, c.one = true) ∧ K [(i, .obj (cs.take off ++ vs.map .c ++ cs.drop (off + n)))]
        | _ => False
    | _ => False
  | .eptr i idx f =>
    match LH.get H i with
    | some (.row e xs) =>
      match n, v with
      | none, .c v => f < e ∧ v.one = true ∧ K [(i, .row e (xs.set idx (setC (xs.getD idx .undef) f v)))]
      | some n, .c (.agg vs) => (vs.length = n ∧ f = 0 ∧ n = e ∧ ∀ c ∈ vs, c.one = true) ∧ K [(i, .row e (xs.set idx (.agg vs)))]
      | _, _ => False
    | _ => False
  | _ => False

def bldW (σ : List (Nat × AV)) (g : Prop) : List CV → List (Nat × Opd) → (List CV → Prop) → Prop
  | z, [], K => K z
  | z, (i, x) :: ps, K => ungW g (val σ x) fun v =>
    match v with
    | .c v => (i < z.length ∧ v.one = true) ∧ bldW σ g (z.set i v) ps K
    | _ => False

def optI (g : Prop) (σ : List (Nat × AV)) : Option Opd → (Option Int → Prop) → Prop
  | none, K => K none
  | some x, K => ungW g (val σ x) fun v =>
    match v with
    | .c (.int _ n) => K (some n)
    | _ => False

/-- x[lo:hi:mx] of a slice of so many elements (cap unknown, at least that). -/
def boundsW (g : Prop) (len : Nat) (lo hi mx : Option Int) (K : Nat → Nat → Prop) : Prop :=
  (g → 0 ≤ lo.getD 0 ∧ lo.getD 0 ≤ hi.getD len ∧ hi.getD len ≤ mx.getD (hi.getD len) ∧ hi.getD len ≤ len ∧ mx.getD len ≤ len) ∧
  K (lo.getD 0).toNat (hi.getD len).toNat

def cellsW (base : Nat) (H : List (Nat × LObj)) : List (Option Nat) → List AV → Nat → (List OC → List (Nat × Option Nat) → List (Nat × LObj) → Prop) → Prop
  | [], [], _, K => K [] [] H
  | none :: ms, .c x :: cs, k, K => cellsW base H ms cs (k + 1) fun l m H' => K (.cv x :: l) m H'
  | some e :: ms, .c .nilsl :: cs, k, K => cellsW base H ms cs (k + 1) fun l m H' => K (.own e [] :: l) ((base + 1 + k, none) :: m) H'
  | some e :: ms, .osl i off len :: cs, k, K =>
    match LH.get H i with
    | some (.row e' xs) => (off = 0 ∧ len = xs.length) ∧ cellsW base (LH.set H i .dead) ms cs (k + 1) fun l m H' => K (.own e' xs :: l) ((base + 1 + k, some i) :: m) H'
    | _ => False
  | _, _, _, _ => False

/-- One argument: what is handed over; which of the called one's things is which of ours; whose row is shown; the heap with what was handed over taken away. -/
def argW (g : Prop) (H : List (Nat × LObj)) (id : Nat) (v : AV) (md : Mode) (K : Arg → List (Nat × Option Nat) → List Nat → List (Nat × LObj) → Prop) : Prop :=
  match md with
  | .plain => ungW g v fun v =>
    match v with
    | .c x => K (.cv x) [] [] H
    | _ => False
  | .view esz => ungW g v fun v =>
    match v with
    | .c .nilsl => K (.cv (.sl esz [])) [] [] H
    | .c (.sl s xs) => K (.cv (.sl s xs)) [] [] H
    | .osl i off len =>
      match LH.get H i with
      | some (.row e xs) => K (.cv (.sl e ((xs.drop off).take len))) [] [i] H
      | some (.vrow e xs) => K (.cv (.sl e ((xs.drop off).take len))) [] [] H
      | _ => False
    | _ => False
  | .move esz =>
    match v with
    | .c .nilsl => K (.own esz []) [(id, none)] [] H
    | .osl i off len =>
      match LH.get H i with
      | some (.row e xs) => (off = 0 ∧ len = xs.length) ∧ K (.own e xs) [(id, some i)] [] (LH.set H i .dead)
      | _ => False
    | _ => False
  | .mutr =>
    match v with
    | .osl i off len =>
      match LH.get H i with
      | some (.row e xs) => (off = 0 ∧ len = xs.length) ∧ K (.mutr e xs) [(id, some i)] [] (LH.set H i .dead)
      | _ => False
    | _ => False
  | .ptr ms =>
    match v with
    | .ref i off =>
      match LH.get H i with
      | some (.obj cs) => (off = 0 ∧ cs.length ≤ 15) ∧ cellsW id (LH.set H i .dead) ms cs 0 fun ocs m H' => K (.obj ocs) ((id, some i) :: m) [] H'
      | _ => False
    | _ => False

def argsW (g : Prop) (base : Nat) : List (Nat × LObj) → List (AV × Mode) → Nat →
    (List Arg → List (Nat × Option Nat) → List Nat → List (Nat × LObj) → Prop) → Prop
  | H, [], _, K => K [] [] [] H
  | H, (v, md) :: l, j, K => argW g H (base + 64 * j) v md fun a m V H' =>
      argsW g base H' l (j + 1) fun as m' V' H'' => K (a :: as) (m ++ m') (V ++ V') H''

/-- What comes back, under names of the caller's. -/
def impAV (u : Nat) : List OC → Nat → List AV
  | [], _ => []
  | r :: rs, j => r.av (64 * u + j) :: impAV u rs (j + 1)
def impOb (u : Nat) : List OC → Nat → List (Nat × LObj)
  | [], _ => []
  | r :: rs, j => r.ob (64 * u + j) ++ impOb u rs (j + 1)
def impRes (u : Nat) (res : List OC) : AV :=
  match res with
  | [r] => r.av (64 * u)
  | rs => .tup (impAV u rs 0)
def mget (m : List (Nat × Option Nat)) (id : Nat) : Option (Option Nat) :=
  match m with
  | [] => none
  | (k, o) :: m => if k = id then some o else mget m id
def backW (u : Nat) (m : List (Nat × Option Nat)) : List Arg → Nat → List (Nat × LObj)
  | .obj b :: as, j =>
    match mget m (argBase + 64 * j) with
    | some (some i) => (i, .obj (cellsAV (64 * (u + 1 + j)) b 0)) :: (cellsOb (64 * (u + 1 + j)) b 0 ++ backW u m as (j + 1))
    | _ => backW u m as (j + 1)
  | .mutr e xs :: as, j =>
    match mget m (argBase + 64 * j) with
    | some (some i) => (i, .row e xs) :: backW u m as (j + 1)
    | _ => backW u m as (j + 1)
  | _ :: as, j => backW u m as (j + 1)
  | [], _ => []

def OC.scalar : OC → Prop
  | .cv v => v.scalar = true
  | .own _ xs => ∀ x ∈ xs, x.scalar = true

/-- No thing bears a name of this operation's. -/
def fresh (H : List (Nat × LObj)) (u : Nat) : Prop := u < 15000 ∧ ∀ x ∈ H, x.1 / 64 ≠ u

def isLive (H : List (Nat × LObj)) (i : Nat) : Prop :=
  match LH.get H i with
  | some (.row _ _) => True
  | _ => False

/-- What was handed over is no longer ours. -/
def deadOf : List (Nat × Option Nat) → List (Nat × LObj)
  | [] => []
  | (_, some i) :: m => (i, .dead) :: deadOf m
  | (_, none) :: m => deadOf m

/-- None of the names of a call's. -/
def freshC (H : List (Nat × LObj)) (u : Nat) : Prop := u + 10 < 15000 ∧ ∀ x ∈ H, x.1 / 64 < u ∨ u + 9 ≤ x.1 / 64

def callW (P : Program) (g : Prop) (σ : List (Nat × AV)) (H : List (Nat × LObj)) (u : Nat) (f : FuncId) (as : List (Opd × Mode)) (K : AV → List (Nat × LObj) → Prop) : Prop :=
  argsW g argBase H (as.map fun x => (val σ x.1, x.2)) 0 fun args m V H' =>
    ∃ out : Out, (g → CW P f args out) ∧ (∀ i ∈ V, isLive H' i) ∧ (V = [] ∨ (∀ r ∈ out.res, r.scalar) ∧ ∀ b ∈ out.back, ∀ r ∈ b, r.scalar) ∧
      (freshC H u ∧ args.length ≤ 8 ∧ out.res.length ≤ 60 ∧ ∀ b ∈ out.back, b.length ≤ 15) ∧
      K (impRes u out.res) (backW u m (backArgs args out.back) 0 ++ impOb u out.res 0 ++ deadOf m)

def opW (P : Program) (g : Prop) (σ : List (Nat × AV)) (H : List (Nat × LObj)) (u : Nat) (io : Ins) (K : AV → List (Nat × LObj) → Prop) : Prop :=
  match io with
  | .mv x => K (val σ x) []
  | .pick c x y => ungW g (val σ c) fun c =>
    match c with
    | .c (.bool t) => pickW g t (val σ x) (val σ y) fun v => K v []
    | _ => False
  | .bin op x y => binW g op (val σ x) (val σ y) fun v => K (.c v) []
  | .not x => ungW g (val σ x) fun v =>
    match v with
    | .c (.bool b) => K (.c (.bool !b)) []
    | _ => False
  | .cpl x => ungW g (val σ x) fun v =>
    match v with
    | .c (.int k n) => K (.c (.int k (bitI .xor k (if k.signed then -1 else k.max) n))) []
    | _ => False
  | .conv k x => ungW g (val σ x) fun v =>
    match v with
    | .c (.int _ n) => K (.c (.int k (k.wrap n))) []
    | _ => False
  | .b2s x => ungW g (val σ x) fun v => elemsW H false 1 v fun xs => (∀ x ∈ xs, isU8 x) ∧ K (.c (.str (mkStr xs))) []
  | .s2b x =>
    match val σ x with
    | .c (.str s) => fresh H u ∧ s.size ≤ 2 ^ 47 ∧ K (.osl (64 * u) 0 (strCells s).length) [(64 * u, .row 1 (strCells s))]
    | _ => False
  | .len str x => lenW g H str (val σ x) fun n => K (.c (.int .i64 n)) []
  | .mn x y => ungW g (val σ x) fun x => ungW g (val σ y) fun y =>
    match x, y with
    | .c (.int k a), .c (.int k' b) => k = k' ∧ K (.c (.int k (if b < a then b else a))) []
    | _, _ => False
  | .mx x y => ungW g (val σ x) fun x => ungW g (val σ y) fun y =>
    match x, y with
    | .c (.int k a), .c (.int k' b) => k = k' ∧ K (.c (.int k (if b > a then b else a))) []
    | _, _ => False
  | .ext x i => ungW g (val σ x) fun v =>
    match v with
    | .tup l => i < l.length ∧ K (l.getD i (.c .undef)) []
    | _ => False
  | .sidx x i => ungW g (val σ x) fun v => ungW g (val σ i) fun i =>
    match v, i with
    | .c (.str s), .c (.int _ n) => (g → 0 ≤ n ∧ n < s.size) ∧ K (.c (u8 (s.data.toList.getD n.toNat 0))) []
    | _, _ => False
  | .aidx m x i => ungW g (val σ x) fun v => ungW g (val σ i) fun i =>
    match v, i with
    | .c (.agg cs), .c (.int _ n) => cs.length = m ∧ (g → 0 ≤ n ∧ n < m) ∧ K (.c (cs.getD n.toNat .undef)) []
    | _, _ => False
  | .fa x off => ungW g (val σ x) fun v =>
    match v with
    | .ref i o =>
      match LH.get H i with
      | some (.obj cs) => o + off ≤ cs.length ∧ K (.ref i (o + off)) []
      | _ => False
    | .eptr i idx f =>
      match LH.get H i with
      | some (.row _ _) => K (.eptr i idx (f + off)) []
      | some (.vrow _ _) => K (.eptr i idx (f + off)) []
      | _ => False
    | .vptr cs => K (.vptr (cs.drop off)) []
    | _ => False
  | .ia x i esz => ungW g (val σ x) fun v => ungW g (val σ i) fun i =>
    match v, i with
    | .osl id off len, .c (.int _ n) =>
      match LH.get H id with
      | some (.row e xs) => e = esz ∧ (g → 0 ≤ n ∧ n < len) ∧ K (.eptr id (off + n.toNat) 0) []
      | some (.vrow e xs) => e = esz ∧ (g → 0 ≤ n ∧ n < len) ∧ K (.eptr id (off + n.toNat) 0) []
      | _ => False
    | .c (.sl e xs), .c (.int _ n) => e = esz ∧ (g → 0 ≤ n ∧ n < xs.length) ∧ K (.vptr (xs.getD n.toNat .undef).cells) []
    | _, _ => False
  | .ld x n => loadW g H (val σ x) n fun v => K v []
  | .st x v n => storeW H (val σ x) (val σ v) n fun ws => K (.c .undef) ws
  | .nck x => ungW g (val σ x) fun v =>
    match v with
    | .ref i o =>
      match LH.get H i with
      | some (.obj _) => K v []
      | _ => False
    | .vptr _ => K v []
    | .eptr i _ _ =>
      match LH.get H i with
      | some (.row _ _) => K v []
      | some (.vrow _ _) => K v []
      | _ => False
    | _ => False
  | .alloc z => fresh H u ∧ K (.ref (64 * u) 0) [(64 * u, .obj (z.map .c))]
  | .box x =>
    match val σ x with
    | .c (.agg vs) => (fresh H u ∧ ∀ c ∈ vs, c.one = true) ∧ K (.ref (64 * u) 0) [(64 * u, .obj (vs.map .c))]
    | v => (fresh H u ∧ storable H v) ∧ K (.ref (64 * u) 0) [(64 * u, .obj [v])]
  | .bld z ps => bldW σ g z ps fun cs => K (.c (.agg cs)) []
  | .bsl esz ps => closedW (ps.map (val σ)) fun vs => (fresh H u ∧ ∀ v ∈ vs, v.wf esz ∧ (v.one = true ∨ ∃ cs, v = .agg cs)) ∧ K (.osl (64 * u) 0 vs.length) [(64 * u, .row esz vs)]
  | .slc x lo hi mx esz => ungW g (val σ x) fun v => optI g σ lo fun lo => optI g σ hi fun hi => optI g σ mx fun mx =>
    match v with
    | .osl id off len =>
      match LH.get H id with
      | some (.row e xs) => e = esz ∧ mx = none ∧ boundsW g len lo hi mx fun l h => K (.osl id (off + l) (h - l)) []
      | some (.vrow e xs) => e = esz ∧ mx = none ∧ boundsW g len lo hi mx fun l h => K (.osl id (off + l) (h - l)) []
      | _ => False
    | .c (.sl e xs) => e = esz ∧ boundsW g xs.length lo hi mx fun l h => K (.c (.sl e ((xs.drop l).take (h - l)))) []
    | .c .nilsl => boundsW g 0 lo hi mx fun l h => K (.c .nilsl) []
    | _ => False
  | .ssl x lo hi => ungW g (val σ x) fun v => optI g σ lo fun lo => optI g σ hi fun hi =>
    match v with
    | .c (.str s) => boundsW g s.size lo hi none fun l h => K (.c (.str (s.extract l h))) []
    | _ => False
  | .app x y esz bytes str => elemsW H str esz (val σ y) fun ys =>
    match val σ x with
    | .c .nilsl => (fresh H u ∧ ys.length * bytes ≤ 140737488355328) ∧ K (.osl (64 * u) 0 ys.length) [(64 * u, .row esz ys)]
    | .osl id off len =>
      match LH.get H id with
      | some (.row e xs) => (fresh H u ∧ e = esz ∧ (len + ys.length) * bytes ≤ 140737488355328) ∧
          K (.osl (64 * u) 0 (len + ys.length)) [(64 * u, .row esz ((xs.drop off).take len ++ ys)), (id, .dead)]
      | _ => False
    | _ => False
  | .call f as =>
    match val σ f with
    | .c (.fn f) => callW P g σ H u f as K
    | _ => False
  | .beq x y => ungW g (val σ x) fun x => ungW g (val σ y) fun y =>
    match x, y with
    | .c (.bool p), .c (.bool q) => K (.c (.bool (p == q))) []
    | _, _ => False
  | .bne x y => ungW g (val σ x) fun x => ungW g (val σ y) fun y =>
    match x, y with
    | .c (.bool p), .c (.bool q) => K (.c (.bool (p != q))) []
    | _, _ => False
  | .mks n z => fresh H u ∧ K (.osl (64 * u) 0 n) [(64 * u, .row 1 (List.replicate n z))]
  | .isnil x neg => ungW g (val σ x) fun v =>
    match v with
    | .c .nilsl => K (.c (.bool (!neg))) []
    | .c (.sl _ xs) => (g → xs ≠ []) ∧ K (.c (.bool neg)) []
    | .osl i _ len =>
      match LH.get H i with
      | some (.row _ _) => (g → len ≠ 0) ∧ K (.c (.bool neg)) []
      | some (.vrow _ _) => (g → len ≠ 0) ∧ K (.c (.bool neg)) []
      | _ => False
    | _ => False

/-- Under two guards at once. -/
def flat (b : Bool) (v : AV) : AV :=
  match v with
  | .grd b' v' => .grd (b && b') v'
  | v => .grd b v

def stepW (P : Program) (σ : List (Nat × AV)) (H : List (Nat × LObj)) (i : IOp) (K : AV → List (Nat × LObj) → Prop) : Prop :=
  match i.g with
  | none => opW P True σ H i.u i.io K
  | some (t, want) =>
    match Slots.get σ t with
    | .c (.bool b) => (opW P ((b == want) = true) σ H i.u i.io fun v ws => ws = [] ∧ K (flat (b == want) v) []) ∨ ((b == want) = false ∧ ∃ v, K (flat (b == want) v) [])
    | .grd b' (.c (.bool b)) => (opW P ((b' && (b == want)) = true) σ H i.u i.io fun v ws => ws = [] ∧ K (flat (b' && (b == want)) v) []) ∨ ((b' && (b == want)) = false ∧ ∃ v, K (flat (b' && (b == want)) v) [])
    | _ => False

def opsW (P : Program) : List IOp → List (Nat × AV) → List (Nat × LObj) → (List (Nat × AV) → List (Nat × LObj) → Prop) → Prop
  | [], σ, H, K => K σ H
  | i :: l, σ, H, K => stepW P σ H i fun v ws => opsW P l (Slots.put σ i.d v) (LH.sets H ws) K

end Go.Proofs.Ytcpdnpaedkcebaa.V
