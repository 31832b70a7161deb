/- A small calculus over the model: the operations reckoned out, what they come to ahead of what follows. -/
import Derived.Test.YtcpdnpaedkcebaaVp
namespace Go.Proofs.Ytcpdnpaedkcebaa.V
open Go Go.RowKit
set_option linter.unusedVariables false
set_option linter.unusedSimpArgs false

abbrev R3 := Option (Prop × AV × List (Nat × LObj))
def ungE (g : Prop) : AV → Prop × AV
  | .grd b v => ((g → b = true), v)
  | .c v => (True, .c v)
  | .ref i o => (True, .ref i o)
  | .osl i o l => (True, .osl i o l)
  | .eptr i k f => (True, .eptr i k f)
  | .vptr cs => (True, .vptr cs)
  | .tup l => (True, .tup l)
def lift3 (c : Prop) : Option (Prop × CV) → R3
  | some (d, v) => some (c ∧ d, .c v, [])
  | none => none
def eBinI (g : Prop) (k : IntKind) (x y : Int) : BinOp → Option (Prop × CV)
  | .add => some (True, .int k (k.wrap (x + y)))
  | .sub => some (True, .int k (k.wrap (x - y)))
  | .mul => some (True, .int k (k.wrap (x * y)))
  | .quo => some ((g → y ≠ 0), .int k (k.wrap (x.tdiv y)))
  | .rem => some ((g → y ≠ 0), .int k (x.tmod y))
  | .and => some (True, .int k (bitI .and k x y))
  | .or => some (True, .int k (bitI .or k x y))
  | .xor => some (True, .int k (bitI .xor k x y))
  | .eql => some (True, .bool (x == y))
  | .neq => some (True, .bool (x != y))
  | .lss => some (True, .bool (decide (x < y)))
  | .leq => some (True, .bool (decide (x ≤ y)))
  | .gtr => some (True, .bool (decide (y < x)))
  | .geq => some (True, .bool (decide (y ≤ x)))
  | _ => none
def eInt (g : Prop) (k k' : IntKind) (x y : Int) : BinOp → Option (Prop × CV)
  | .shl => some ((g → 0 ≤ y), .int k (k.wrap (x * 2 ^ (min y.toNat k.bits))))
  | .shr => some ((g → 0 ≤ y), .int k (x.fdiv (2 ^ (min y.toNat k.bits))))
  | op => match eBinI g k x y op with
    | some (d, v) => some (k = k' ∧ d, v)
    | none => none
def eStr (x y : ByteArray) : BinOp → Option (Prop × CV)
  | .eql => some (True, .bool (x.toList == y.toList))
  | .neq => some (True, .bool (!(x.toList == y.toList)))
  | _ => none
def eFlt (x y : Nat) : BinOp → Option (Prop × CV)
  | .eql => some (True, .bool (FloatKind.format .f64 |>.order x y |> (· == some .eq)))
  | .neq => some (True, .bool (FloatKind.format .f64 |>.order x y |> (· != some .eq)))
  | _ => none
def eBin (g : Prop) (op : BinOp) : Prop × AV → Prop × AV → R3
  | (c, .c (.int k a)), (c', .c (.int k' b)) => lift3 (c ∧ c') (eInt g k k' a b op)
  | (c, .c (.str a)), (c', .c (.str b)) => lift3 (c ∧ c') (eStr a b op)
  | (c, .c (.flt a)), (c', .c (.flt b)) => lift3 (c ∧ c') (eFlt a b op)
  | _, _ => none
def eBeq : Prop × AV → Prop × AV → R3
  | (c, .c (.bool p)), (c', .c (.bool q)) => some (c ∧ c', .c (.bool (p == q)), [])
  | _, _ => none
def eBne : Prop × AV → Prop × AV → R3
  | (c, .c (.bool p)), (c', .c (.bool q)) => some (c ∧ c', .c (.bool (p != q)), [])
  | _, _ => none
def ePick (g0 : Prop) : Prop × AV → AV → AV → R3
  | (c, .c (.bool t)), .c (.bool p), .c (.bool q) => some (c, .c (.bool (if t then p else q)), [])
  | (c, .c (.bool t)), .grd g (.c (.bool p)), .c (.bool q) => some (c ∧ (g0 → t = true → g = true), .c (.bool (if t then p else q)), [])
  | (c, .c (.bool t)), .c (.bool p), .grd g (.c (.bool q)) => some (c ∧ (g0 → t = false → g = true), .c (.bool (if t then p else q)), [])
  | (c, .c (.bool t)), .grd g (.c (.bool p)), .grd g' (.c (.bool q)) => some (c ∧ (g0 → t = true → g = true) ∧ (g0 → t = false → g' = true), .c (.bool (if t then p else q)), [])
  | (c, .c (.bool t)), .c (.bool p), _ => some (c ∧ (g0 → t = true), .c (.bool p), [])
  | (c, .c (.bool t)), _, .c (.bool q) => some (c ∧ (g0 → t = false), .c (.bool q), [])
  | (c, .c (.bool t)), .grd g (.c (.bool p)), _ => some (c ∧ (g0 → t = true ∧ g = true), .c (.bool p), [])
  | (c, .c (.bool t)), _, .grd g (.c (.bool q)) => some (c ∧ (g0 → t = false ∧ g = true), .c (.bool q), [])
  | _, _, _ => none
def eNot : Prop × AV → R3
  | (c, .c (.bool b)) => some (c, .c (.bool !b), [])
  | _ => none
def eCpl : Prop × AV → R3
  | (c, .c (.int k n)) => some (c, .c (.int k (bitI .xor k (if k.signed then -1 else k.max) n)), [])
  | _ => none
def eConv (k : IntKind) : Prop × AV → R3
  | (c, .c (.int _ n)) => some (c, .c (.int k (k.wrap n)), [])
  | _ => none
def eRowLen (len : Nat) : Option LObj → Option Nat
  | some (.row _ xs) => some len
  | some (.vrow _ xs) => some len
  | _ => none
def eNat (c : Prop) : Option Nat → R3
  | some n => some (c, .c (.int .i64 n), [])
  | none => none
def eLen (H : LH) : Bool → Prop × AV → R3
  | true, (c, .c (.str s)) => some (c, .c (.int .i64 s.size), [])
  | false, (c, .c .nilsl) => some (c, .c (.int .i64 (0 : Nat)), [])
  | false, (c, .c (.sl _ xs)) => some (c, .c (.int .i64 xs.length), [])
  | false, (c, .osl i off len) => eNat c (eRowLen len (LH.get H i))
  | _, _ => none
def eRow (esz off len : Nat) : Option LObj → Option (Prop × List CV)
  | some (.row e xs) => some (e = esz, (xs.drop off).take len)
  | some (.vrow e xs) => some (e = esz, (xs.drop off).take len)
  | _ => none
def eElems (H : LH) (str : Bool) (esz : Nat) : AV → Option (Prop × List CV)
  | .c .nilsl => some (True, [])
  | .c (.sl s xs) => some (s = esz, xs)
  | .c (.str s) => some (str = true ∧ esz = 1, strCells s)
  | .osl i off len => eRow esz off len (LH.get H i)
  | _ => none
def eB2s (c : Prop) : Option (Prop × List CV) → R3
  | some (d, xs) => some (c ∧ d ∧ ∀ x ∈ xs, isU8 x, .c (.str (mkStr xs)), [])
  | none => none
def eB2s' (H : LH) : Prop × AV → R3
  | (c, v) => eB2s c (eElems H false 1 v)
def eS2b (H : LH) (u : Nat) : AV → R3
  | .c (.str s) => some (fresh H u ∧ s.size ≤ 2 ^ 47, .osl (64 * u) 0 (strCells s).length, [(64 * u, .row 1 (strCells s))])
  | _ => none
def eMn : Prop × AV → Prop × AV → R3
  | (c, .c (.int k a)), (c', .c (.int k' b)) => some (c ∧ c' ∧ k = k', .c (.int k (if b < a then b else a)), [])
  | _, _ => none
def eMx : Prop × AV → Prop × AV → R3
  | (c, .c (.int k a)), (c', .c (.int k' b)) => some (c ∧ c' ∧ k = k', .c (.int k (if a < b then b else a)), [])
  | _, _ => none
def eExt (i : Nat) : Prop × AV → R3
  | (c, .tup l) => some (c ∧ i < l.length, l.getD i (.c .undef), [])
  | _ => none
def eSidx (g : Prop) : Prop × AV → Prop × AV → R3
  | (c, .c (.str s)), (c', .c (.int _ n)) => some (c ∧ c' ∧ (g → 0 ≤ n ∧ n < s.size), .c (u8 (s.data.toList.getD n.toNat 0)), [])
  | _, _ => none
def eAidx (g : Prop) (m : Nat) : Prop × AV → Prop × AV → R3
  | (c, .c (.agg cs)), (c', .c (.int _ n)) => some (c ∧ c' ∧ cs.length = m ∧ (g → 0 ≤ n ∧ n < m), .c (cs.getD n.toNat .undef), [])
  | _, _ => none
def eFaO (c : Prop) (i o : Nat) : Option LObj → R3
  | some (.obj cs) => some (c ∧ o ≤ cs.length, .ref i o, [])
  | _ => none
def eFaR (c : Prop) (i idx f : Nat) : Option LObj → R3
  | some (.row _ _) => some (c, .eptr i idx f, [])
  | some (.vrow _ _) => some (c, .eptr i idx f, [])
  | _ => none
def eFa (H : LH) (off : Nat) : Prop × AV → R3
  | (c, .ref i o) => eFaO c i (o + off) (LH.get H i)
  | (c, .eptr i idx f) => eFaR c i idx (f + off) (LH.get H i)
  | (c, .vptr cs) => some (c, .vptr (cs.drop off), [])
  | _ => none
def eIaR (g c : Prop) (id off len esz : Nat) (n : Int) : Option LObj → R3
  | some (.row e xs) => some (c ∧ e = esz ∧ (g → 0 ≤ n ∧ n < len), .eptr id (off + n.toNat) 0, [])
  | some (.vrow e xs) => some (c ∧ e = esz ∧ (g → 0 ≤ n ∧ n < len), .eptr id (off + n.toNat) 0, [])
  | _ => none
def eIa (g : Prop) (H : LH) (esz : Nat) : Prop × AV → Prop × AV → R3
  | (c, .osl id off len), (c', .c (.int _ n)) => eIaR g (c ∧ c') id off len esz n (LH.get H id)
  | (c, .c (.sl e xs)), (c', .c (.int _ n)) => some (c ∧ c' ∧ e = esz ∧ (g → 0 ≤ n ∧ n < xs.length), .vptr (xs.getD n.toNat .undef).cells, [])
  | _, _ => none
def eClosed : List AV → Option (List CV)
  | [] => some []
  | .c v :: l => match eClosed l with
    | some vs => some (v :: vs)
    | none => none
  | _ => none
def eAgg (c : Prop) : Option (List CV) → R3
  | some vs => some (c, .c (.agg vs), [])
  | none => none
def eLdO (c : Prop) (off : Nat) : Option Nat → Option LObj → R3
  | none, some (.obj cs) => some (c ∧ off < cs.length, cs.getD off (.c .undef), [])
  | some n, some (.obj cs) => eAgg (c ∧ off + n ≤ cs.length) (eClosed ((cs.drop off).take n))
  | _, _ => none
def eLdR (g c : Prop) (idx f : Nat) : Option Nat → Option LObj → R3
  | none, some (.row e xs) => some (c ∧ (g → f < e), .c ((xs.getD idx .undef).cells.getD f .undef), [])
  | some n, some (.row e xs) => some (c ∧ (g → f + n ≤ e), .c (.agg (((xs.getD idx .undef).cells.drop f).take n)), [])
  | none, some (.vrow e xs) => some (c ∧ (g → f < e), .c ((xs.getD idx .undef).cells.getD f .undef), [])
  | some n, some (.vrow e xs) => some (c ∧ (g → f + n ≤ e), .c (.agg (((xs.getD idx .undef).cells.drop f).take n)), [])
  | _, _ => none
def eLd (g : Prop) (H : LH) (n : Option Nat) : Prop × AV → R3
  | (c, .ref i off) => eLdO c off n (LH.get H i)
  | (c, .eptr i idx f) => eLdR g c idx f n (LH.get H i)
  | (c, .vptr cs) => match n with
    | none => some (c ∧ (g → 0 < cs.length), .c (cs.getD 0 .undef), [])
    | some n => some (c ∧ (g → n ≤ cs.length), .c (.agg (cs.take n)), [])
  | _ => none
def eStO (H : LH) (i off : Nat) (v : AV) : Option Nat → Option LObj → R3
  | none, some (.obj cs) => some (off < cs.length ∧ storable H v, .c .undef, [(i, .obj (cs.set off v))])
  | some n, some (.obj cs) => match v with
    | .c (.agg vs) => some ((vs.length = n ∧ off + n ≤ cs.length ∧ ∀ c ∈ vs, c.one = true), .c .undef, [(i, .obj (cs.take off ++ vs.map .c ++ cs.drop (off + n)))])
    | _ => none
  | _, _ => none
def eStR (i idx f : Nat) : AV → Option Nat → Option LObj → R3
  | .c v, none, some (.row e xs) => some (f < e ∧ v.one = true, .c .undef, [(i, .row e (xs.set idx (setC (xs.getD idx .undef) f v)))])
  | .c (.agg vs), some n, some (.row e xs) => some ((vs.length = n ∧ f = 0 ∧ n = e ∧ ∀ c ∈ vs, c.one = true), .c .undef, [(i, .row e (xs.set idx (.agg vs)))])
  | _, _, _ => none
def eSt (H : LH) (v : AV) (n : Option Nat) : AV → R3
  | .ref i off => eStO H i off v n (LH.get H i)
  | .eptr i idx f => eStR i idx f v n (LH.get H i)
  | _ => none
def eNckO (c : Prop) (v : AV) : Option LObj → R3
  | some (.obj _) => some (c, v, [])
  | _ => none
def eNckR (c : Prop) (v : AV) : Option LObj → R3
  | some (.row _ _) => some (c, v, [])
  | some (.vrow _ _) => some (c, v, [])
  | _ => none
def eNck (H : LH) : Prop × AV → R3
  | (c, .ref i o) => eNckO c (.ref i o) (LH.get H i)
  | (c, .vptr cs) => some (c, .vptr cs, [])
  | (c, .eptr i k f) => eNckR c (.eptr i k f) (LH.get H i)
  | _ => none
def eBox (H : LH) (u : Nat) : AV → R3
  | .c (.agg vs) => some (fresh H u ∧ ∀ c ∈ vs, c.one = true, .ref (64 * u) 0, [(64 * u, .obj (vs.map .c))])
  | .c (.bool b) => some (fresh H u, .ref (64 * u) 0, [(64 * u, .obj [.c (.bool b)])])
  | .c (.int k n) => some (fresh H u, .ref (64 * u) 0, [(64 * u, .obj [.c (.int k n)])])
  | .c .nilsl => some (fresh H u, .ref (64 * u) 0, [(64 * u, .obj [.c .nilsl])])
  | .c (.sl e xs) => some (fresh H u, .ref (64 * u) 0, [(64 * u, .obj [.c (.sl e xs)])])
  | .c (.str s) => some (fresh H u, .ref (64 * u) 0, [(64 * u, .obj [.c (.str s)])])
  | .osl i o l => some (fresh H u ∧ storable H (.osl i o l), .ref (64 * u) 0, [(64 * u, .obj [.osl i o l])])
  | .ref i o => some (fresh H u ∧ storable H (.ref i o), .ref (64 * u) 0, [(64 * u, .obj [.ref i o])])
  | _ => none
def eBldC (z : List CV) (i : Nat) (k : List CV → Option (Prop × List CV)) : Prop × AV → Option (Prop × List CV)
  | (c, .c v) => match k (z.set i v) with
    | some (d, cs) => some ((c ∧ i < z.length ∧ v.one = true) ∧ d, cs)
    | none => none
  | _ => none
def eBld (σ : Slots) (g : Prop) : List (Nat × Opd) → List CV → Option (Prop × List CV)
  | [], z => some (True, z)
  | (i, x) :: ps, z => eBldC z i (eBld σ g ps) (ungE g (val σ x))
def eBldF : Option (Prop × List CV) → R3
  | some (c, cs) => some (c, .c (.agg cs), [])
  | none => none
def eBslF (H : LH) (u esz : Nat) : Option (List CV) → R3
  | some vs => some (fresh H u ∧ ∀ v ∈ vs, v.wf esz ∧ (v.one = true ∨ ∃ cs, v = .agg cs), .osl (64 * u) 0 vs.length, [(64 * u, .row esz vs)])
  | none => none
def eIntO : Prop × AV → Option (Prop × Option Int)
  | (c, .c (.int _ n)) => some (c, some n)
  | _ => none
def eOpt (g : Prop) (σ : Slots) : Option Opd → Option (Prop × Option Int)
  | none => some (True, none)
  | some x => eIntO (ungE g (val σ x))
def bndP (g : Prop) (len : Nat) (lo hi mx : Option Int) : Prop :=
  g → 0 ≤ lo.getD 0 ∧ lo.getD 0 ≤ hi.getD len ∧ hi.getD len ≤ mx.getD (hi.getD len) ∧ hi.getD len ≤ len ∧ mx.getD len ≤ len
def eSlcR (g c : Prop) (id off len esz : Nat) (lo hi mx : Option Int) : Option LObj → R3
  | some (.row e xs) => some (c ∧ e = esz ∧ mx = none ∧ bndP g len lo hi mx, .osl id (off + (lo.getD 0).toNat) ((hi.getD len).toNat - (lo.getD 0).toNat), [])
  | some (.vrow e xs) => some (c ∧ e = esz ∧ mx = none ∧ bndP g len lo hi mx, .osl id (off + (lo.getD 0).toNat) ((hi.getD len).toNat - (lo.getD 0).toNat), [])
  | _ => none
def eSlcV (g : Prop) (H : LH) (esz : Nat) (c : Prop) (lo hi mx : Option Int) : AV → R3
  | .osl id off len => eSlcR g c id off len esz lo hi mx (LH.get H id)
  | .c (.sl e xs) => some (c ∧ e = esz ∧ bndP g xs.length lo hi mx, .c (.sl e ((xs.drop (lo.getD 0).toNat).take ((hi.getD xs.length).toNat - (lo.getD 0).toNat))), [])
  | .c .nilsl => some (c ∧ bndP g 0 lo hi mx, .c .nilsl, [])
  | _ => none
def eSlc (g : Prop) (H : LH) (esz : Nat) : Prop × AV → Option (Prop × Option Int) → Option (Prop × Option Int) → Option (Prop × Option Int) → R3
  | (c, v), some (c1, lo), some (c2, hi), some (c3, mx) => eSlcV g H esz (c ∧ c1 ∧ c2 ∧ c3) lo hi mx v
  | _, _, _, _ => none
def eSsl (g : Prop) : Prop × AV → Option (Prop × Option Int) → Option (Prop × Option Int) → R3
  | (c, .c (.str s)), some (c1, lo), some (c2, hi) => some ((c ∧ c1 ∧ c2) ∧ bndP g s.size lo hi none, .c (.str (s.extract (lo.getD 0).toNat (hi.getD s.size).toNat)), [])
  | _, _, _ => none
def eAppR (H : LH) (u id off len esz bytes : Nat) (d : Prop) (ys : List CV) : Option LObj → R3
  | some (.row e xs) => some (d ∧ fresh H u ∧ e = esz ∧ (len + ys.length) * bytes ≤ 140737488355328, .osl (64 * u) 0 (len + ys.length), [(64 * u, .row esz ((xs.drop off).take len ++ ys)), (id, .dead)])
  | _ => none
def eApp (H : LH) (u esz bytes : Nat) : AV → Option (Prop × List CV) → R3
  | .c .nilsl, some (d, ys) => some (d ∧ fresh H u ∧ ys.length * bytes ≤ 140737488355328, .osl (64 * u) 0 ys.length, [(64 * u, .row esz ys)])
  | .osl id off len, some (d, ys) => eAppR H u id off len esz bytes d ys (LH.get H id)
  | _, _ => none
def eNilR (g c : Prop) (neg : Bool) (len : Nat) : Option LObj → R3
  | some (.row _ _) => some (c ∧ (g → len ≠ 0), .c (.bool neg), [])
  | some (.vrow _ _) => some (c ∧ (g → len ≠ 0), .c (.bool neg), [])
  | _ => none
def eNil (g : Prop) (H : LH) (neg : Bool) : Prop × AV → R3
  | (c, .c .nilsl) => some (c, .c (.bool (!neg)), [])
  | (c, .c (.sl _ xs)) => some (c ∧ (g → xs ≠ []), .c (.bool neg), [])
  | (c, .osl i _ len) => eNilR g c neg len (LH.get H i)
  | _ => none

def evO (g : Prop) (σ : Slots) (H : LH) (u : Nat) : Ins → R3
  | .mv x => some (True, val σ x, [])
  | .pick c x y => ePick g (ungE g (val σ c)) (val σ x) (val σ y)
  | .bin op x y => eBin g op (ungE g (val σ x)) (ungE g (val σ y))
  | .not x => eNot (ungE g (val σ x))
  | .cpl x => eCpl (ungE g (val σ x))
  | .conv k x => eConv k (ungE g (val σ x))
  | .b2s x => eB2s' H (ungE g (val σ x))
  | .s2b x => eS2b H u (val σ x)
  | .len b x => eLen H b (ungE g (val σ x))
  | .mn x y => eMn (ungE g (val σ x)) (ungE g (val σ y))
  | .mx x y => eMx (ungE g (val σ x)) (ungE g (val σ y))
  | .ext x i => eExt i (ungE g (val σ x))
  | .sidx x i => eSidx g (ungE g (val σ x)) (ungE g (val σ i))
  | .aidx m x i => eAidx g m (ungE g (val σ x)) (ungE g (val σ i))
  | .fa x off => eFa H off (ungE g (val σ x))
  | .ia x i esz => eIa g H esz (ungE g (val σ x)) (ungE g (val σ i))
  | .ld x n => eLd g H n (ungE g (val σ x))
  | .st x v n => eSt H (val σ v) n (val σ x)
  | .nck x => eNck H (ungE g (val σ x))
  | .alloc z => some (fresh H u, .ref (64 * u) 0, [(64 * u, .obj (z.map .c))])
  | .box x => eBox H u (val σ x)
  | .bld z ps => eBldF (eBld σ g ps z)
  | .bsl esz ps => eBslF H u esz (eClosed (ps.map (val σ)))
  | .slc x lo hi m esz => eSlc g H esz (ungE g (val σ x)) (eOpt g σ lo) (eOpt g σ hi) (eOpt g σ m)
  | .ssl x lo hi => eSsl g (ungE g (val σ x)) (eOpt g σ lo) (eOpt g σ hi)
  | .app x y esz bytes str => eApp H u esz bytes (val σ x) (eElems H str esz (val σ y))
  | .beq x y => eBeq (ungE g (val σ x)) (ungE g (val σ y))
  | .bne x y => eBne (ungE g (val σ x)) (ungE g (val σ y))
  | .mks n z => some (fresh H u, .osl (64 * u) 0 n, [(64 * u, .row 1 (List.replicate n z))])
  | .isnil x neg => eNil g H neg (ungE g (val σ x))
  | .call _ _ => none

section
variable {P : Program} {g : Prop} {σ : Slots} {H : LH} {u : Nat} {K : AV → List (Nat × LObj) → Prop} {c : Prop} {av : AV} {ws : List (Nat × LObj)}

theorem ungE_ok {v : AV} {F : AV → Prop} (hc : (ungE g v).1) (hF : F (ungE g v).2) : ungW g v F := by
  cases v <;> first | exact hF | exact ⟨hc, hF⟩

theorem eBinI_ok {op : BinOp} {k : IntKind} {x y : Int} {v : CV} {F : CV → Prop} (h : eBinI g k x y op = some (c, v)) (hc : c) (hF : F v) : binI g op k x y F := by
  cases op <;> simp only [eBinI, Option.some.injEq, Prod.mk.injEq, reduceCtorEq] at h <;> obtain ⟨rfl, rfl⟩ := h <;> first | exact hF | exact ⟨hc, hF⟩
theorem lift3_ok {d : Prop} {o : Option (Prop × CV)} (h : lift3 d o = some (c, av, ws)) (hc : c) : ∃ e v, o = some (e, v) ∧ d ∧ e ∧ av = .c v ∧ ws = [] := by
  unfold lift3 at h
  split at h
  · cases h; exact ⟨_, _, rfl, hc.1, hc.2, rfl, rfl⟩
  · cases h
theorem eInt_ok {op : BinOp} {k k' : IntKind} {x y : Int} {v : CV} {F : CV → Prop} (h : eInt g k k' x y op = some (c, v)) (hc : c) (hF : F v) :
    (match (generalizing := false) op with
     | .shl => shI g .shl k x y F
     | .shr => shI g .shr k x y F
     | op => k = k' ∧ binI g op k x y F) := by
  cases op <;> first
    | (cases h; exact ⟨hc, hF⟩)
    | (simp only [eInt] at h
       generalize he : eBinI g k x y _ = o at h
       cases o with
       | none => cases h
       | some dv =>
         obtain ⟨d, v'⟩ := dv
         cases h
         exact ⟨hc.1, eBinI_ok he hc.2 hF⟩)
theorem eElems_ok {str : Bool} {esz : Nat} {v : AV} {ys : List CV} {F : List CV → Prop} (h : eElems H str esz v = some (c, ys)) (hc : c) (hF : F ys) : elemsW H str esz v F := by
  unfold eElems at h
  split at h
  · cases h; exact hF
  · cases h; exact ⟨hc, hF⟩
  · cases h; exact ⟨hc, hF⟩
  · unfold eRow at h
    unfold elemsW
    split at h
    · rename_i hg; cases h; simp only [hg]; exact ⟨hc, hF⟩
    · rename_i hg; cases h; simp only [hg]; exact ⟨hc, hF⟩
    · cases h
  · cases h
theorem eClosed_ok : ∀ {l : List AV} {vs : List CV} {F : List CV → Prop}, eClosed l = some vs → F vs → closedW l F
  | [], vs, F, h, hF => by cases h; exact hF
  | .c v :: l, vs, F, h, hF => by
    unfold eClosed at h
    split at h
    · rename_i vs' he; cases h; exact eClosed_ok (l := l) (F := fun vs => F (v :: vs)) he hF
    · cases h
  | .ref _ _ :: l, _, _, h, _ => by cases h
  | .osl _ _ _ :: l, _, _, h, _ => by cases h
  | .eptr _ _ _ :: l, _, _, h, _ => by cases h
  | .vptr _ :: l, _, _, h, _ => by cases h
  | .tup _ :: l, _, _, h, _ => by cases h
  | .grd _ _ :: l, _, _, h, _ => by cases h
theorem eOpt_ok {x : Option Opd} {n : Option Int} {F : Option Int → Prop} (h : eOpt g σ x = some (c, n)) (hc : c) (hF : F n) : optI g σ x F := by
  cases x with
  | none => cases h; exact hF
  | some x =>
    simp only [eOpt] at h
    generalize hp : ungE g (val σ x) = p at h
    unfold eIntO at h
    split at h <;> cases h
    exact ungE_ok (by rw [hp]; exact hc) (by rw [hp]; exact hF)
theorem eBld_ok : ∀ {ps : List (Nat × Opd)} {z cs : List CV} {c : Prop} {F : List CV → Prop}, eBld σ g ps z = some (c, cs) → c → F cs → bldW σ g z ps F
  | [], z, cs, c, F, h, hc, hF => by cases h; exact hF
  | (i, x) :: ps, z, cs, c, F, h, hc, hF => by
    simp only [eBld] at h
    generalize hp : ungE g (val σ x) = p at h
    unfold eBldC at h
    split at h
    · split at h
      · rename_i he
        cases h
        exact ungE_ok (by rw [hp]; exact hc.1.1) (by rw [hp]; exact ⟨hc.1.2, eBld_ok he hc.2 hF⟩)
      · cases h
    · cases h
theorem bnd_ok {len : Nat} {lo hi mx : Option Int} {F : Nat → Nat → Prop} (h : bndP g len lo hi mx) (hF : F (lo.getD 0).toNat (hi.getD len).toNat) : boundsW g len lo hi mx F := ⟨h, hF⟩

theorem evO_ok {io : Ins} (h : evO g σ H u io = some (c, av, ws)) (hc : c) (hK : K av ws) : opW P g σ H u io K := by
  cases io with
  | mv x => cases h; exact hK
  | pick a x y =>
    simp only [evO] at h
    generalize hp : ungE g (val σ a) = p at h
    unfold ePick at h
    split at h <;> cases h
    · refine ungE_ok (by rw [hp]; exact hc) ?_
      rw [hp]
      show pickW _ _ (val σ x) (val σ y) _
      rename_i h1 h2; rw [h1, h2]; exact hK
    · refine ungE_ok (by rw [hp]; exact hc.1) ?_
      rw [hp]
      show pickW _ _ (val σ x) (val σ y) _
      rename_i h1 h2; rw [h1, h2]; exact ⟨hc.2, hK⟩
    · refine ungE_ok (by rw [hp]; exact hc.1) ?_
      rw [hp]
      show pickW _ _ (val σ x) (val σ y) _
      rename_i h1 h2; rw [h1, h2]; exact ⟨hc.2, hK⟩
    · refine ungE_ok (by rw [hp]; exact hc.1) ?_
      rw [hp]
      show pickW _ _ (val σ x) (val σ y) _
      rename_i h1 h2; rw [h1, h2]; exact ⟨hc.2.1, hc.2.2, hK⟩
    all_goals
      refine ungE_ok (by rw [hp]; exact hc.1) ?_
      rw [hp]
      show pickW _ _ (val σ x) (val σ y) _
      unfold pickW
      split
      all_goals first
        | (exact ⟨hc.2, hK⟩)
        | simp_all
  | bin op x y =>
    simp only [evO] at h
    generalize hp : ungE g (val σ x) = p at h
    generalize hq : ungE g (val σ y) = q at h
    unfold eBin at h
    split at h
    · obtain ⟨e, v, he, hd, hce, rfl, rfl⟩ := lift3_ok h hc
      exact ungE_ok (by rw [hp]; exact hd.1) (by rw [hp]; exact ungE_ok (by rw [hq]; exact hd.2) (by rw [hq]; exact eInt_ok (F := fun v => K (.c v) []) he hce hK))
    · obtain ⟨e, v, he, hd, hce, rfl, rfl⟩ := lift3_ok h hc
      refine ungE_ok (by rw [hp]; exact hd.1) ?_
      rw [hp]
      refine ungE_ok (by rw [hq]; exact hd.2) ?_
      rw [hq]
      cases op <;> simp only [eStr, Option.some.injEq, Prod.mk.injEq, reduceCtorEq] at he <;> obtain ⟨rfl, rfl⟩ := he <;> exact hK
    · obtain ⟨e, v, he, hd, hce, rfl, rfl⟩ := lift3_ok h hc
      refine ungE_ok (by rw [hp]; exact hd.1) ?_
      rw [hp]
      refine ungE_ok (by rw [hq]; exact hd.2) ?_
      rw [hq]
      cases op <;> simp only [eFlt, Option.some.injEq, Prod.mk.injEq, reduceCtorEq] at he <;> obtain ⟨rfl, rfl⟩ := he <;> exact hK
    · cases h
  | beq x y =>
    simp only [evO] at h
    generalize hp : ungE g (val σ x) = p at h
    generalize hq : ungE g (val σ y) = q at h
    unfold eBeq at h; split at h <;> cases h
    exact ungE_ok (by rw [hp]; exact hc.1) (by rw [hp]; exact ungE_ok (by rw [hq]; exact hc.2) (by rw [hq]; exact hK))
  | bne x y =>
    simp only [evO] at h
    generalize hp : ungE g (val σ x) = p at h
    generalize hq : ungE g (val σ y) = q at h
    unfold eBne at h; split at h <;> cases h
    exact ungE_ok (by rw [hp]; exact hc.1) (by rw [hp]; exact ungE_ok (by rw [hq]; exact hc.2) (by rw [hq]; exact hK))
  | mks n z =>
    simp only [evO] at h
    cases h
    exact ⟨hc, hK⟩
  | not x =>
    simp only [evO] at h
    generalize hp : ungE g (val σ x) = p at h
    unfold eNot at h; split at h <;> cases h
    exact ungE_ok (by rw [hp]; exact hc) (by rw [hp]; exact hK)
  | cpl x =>
    simp only [evO] at h
    generalize hp : ungE g (val σ x) = p at h
    unfold eCpl at h; split at h <;> cases h
    exact ungE_ok (by rw [hp]; exact hc) (by rw [hp]; exact hK)
  | conv k x =>
    simp only [evO] at h
    generalize hp : ungE g (val σ x) = p at h
    unfold eConv at h; split at h <;> cases h
    exact ungE_ok (by rw [hp]; exact hc) (by rw [hp]; exact hK)
  | b2s x =>
    simp only [evO] at h
    generalize hp : ungE g (val σ x) = p at h
    obtain ⟨c1, v1⟩ := p
    simp only [eB2s'] at h
    unfold eB2s at h
    split at h
    · rename_i he
      cases h
      exact ungE_ok (by rw [hp]; exact hc.1) (by rw [hp]; exact eElems_ok he hc.2.1 ⟨hc.2.2, hK⟩)
    · cases h
  | s2b x =>
    simp only [evO] at h
    simp only [opW]
    unfold eS2b at h; split at h <;> cases h
    rename_i h1; simp only [h1]
    exact ⟨hc.1, hc.2, hK⟩
  | len b x =>
    simp only [evO] at h
    generalize hp : ungE g (val σ x) = p at h
    simp only [opW, lenW]
    unfold eLen at h
    split at h
    · cases h; exact ungE_ok (by rw [hp]; exact hc) (by rw [hp]; exact hK)
    · cases h; exact ungE_ok (by rw [hp]; exact hc) (by rw [hp]; exact hK)
    · cases h; exact ungE_ok (by rw [hp]; exact hc) (by rw [hp]; exact hK)
    · unfold eNat at h
      split at h
      · rename_i n hn
        unfold eRowLen at hn
        split at hn
        · rename_i hg; cases hn; cases h; exact ungE_ok (by rw [hp]; exact hc) (by rw [hp]; simp only [hg]; exact hK)
        · rename_i hg; cases hn; cases h; exact ungE_ok (by rw [hp]; exact hc) (by rw [hp]; simp only [hg]; exact hK)
        · cases hn
      · cases h
    · cases h
  | mn x y =>
    simp only [evO] at h
    generalize hp : ungE g (val σ x) = p at h
    generalize hq : ungE g (val σ y) = q at h
    unfold eMn at h; split at h <;> cases h
    exact ungE_ok (by rw [hp]; exact hc.1) (by rw [hp]; exact ungE_ok (by rw [hq]; exact hc.2.1) (by rw [hq]; exact ⟨hc.2.2, hK⟩))
  | mx x y =>
    simp only [evO] at h
    generalize hp : ungE g (val σ x) = p at h
    generalize hq : ungE g (val σ y) = q at h
    unfold eMx at h; split at h <;> cases h
    exact ungE_ok (by rw [hp]; exact hc.1) (by rw [hp]; exact ungE_ok (by rw [hq]; exact hc.2.1) (by rw [hq]; exact ⟨hc.2.2, hK⟩))
  | ext x i =>
    simp only [evO] at h
    generalize hp : ungE g (val σ x) = p at h
    unfold eExt at h; split at h <;> cases h
    exact ungE_ok (by rw [hp]; exact hc.1) (by rw [hp]; exact ⟨hc.2, hK⟩)
  | sidx x i =>
    simp only [evO] at h
    generalize hp : ungE g (val σ x) = p at h
    generalize hq : ungE g (val σ i) = q at h
    unfold eSidx at h; split at h <;> cases h
    exact ungE_ok (by rw [hp]; exact hc.1) (by rw [hp]; exact ungE_ok (by rw [hq]; exact hc.2.1) (by rw [hq]; exact ⟨hc.2.2, hK⟩))
  | aidx n x i =>
    simp only [evO] at h
    generalize hp : ungE g (val σ x) = p at h
    generalize hq : ungE g (val σ i) = q at h
    unfold eAidx at h; split at h <;> cases h
    exact ungE_ok (by rw [hp]; exact hc.1) (by rw [hp]; exact ungE_ok (by rw [hq]; exact hc.2.1) (by rw [hq]; exact ⟨hc.2.2.1, hc.2.2.2, hK⟩))
  | fa x off =>
    simp only [evO] at h
    generalize hp : ungE g (val σ x) = p at h
    unfold eFa at h
    split at h
    · unfold eFaO at h
      split at h <;> cases h
      rename_i hg; exact ungE_ok (by rw [hp]; exact hc.1) (by rw [hp]; simp only [hg]; exact ⟨hc.2, hK⟩)
    · unfold eFaR at h
      split at h <;> cases h
      · rename_i hg; exact ungE_ok (by rw [hp]; exact hc) (by rw [hp]; simp only [hg]; exact hK)
      · rename_i hg; exact ungE_ok (by rw [hp]; exact hc) (by rw [hp]; simp only [hg]; exact hK)
    · cases h; exact ungE_ok (by rw [hp]; exact hc) (by rw [hp]; exact hK)
    · cases h
  | ia x i e =>
    simp only [evO] at h
    generalize hp : ungE g (val σ x) = p at h
    generalize hq : ungE g (val σ i) = q at h
    unfold eIa at h
    split at h
    · unfold eIaR at h
      split at h <;> cases h
      · rename_i hg; exact ungE_ok (by rw [hp]; exact hc.1.1) (by rw [hp]; exact ungE_ok (by rw [hq]; exact hc.1.2) (by rw [hq]; simp only [hg]; exact ⟨hc.2.1, hc.2.2, hK⟩))
      · rename_i hg; exact ungE_ok (by rw [hp]; exact hc.1.1) (by rw [hp]; exact ungE_ok (by rw [hq]; exact hc.1.2) (by rw [hq]; simp only [hg]; exact ⟨hc.2.1, hc.2.2, hK⟩))
    · cases h; exact ungE_ok (by rw [hp]; exact hc.1) (by rw [hp]; exact ungE_ok (by rw [hq]; exact hc.2.1) (by rw [hq]; exact ⟨hc.2.2.1, hc.2.2.2, hK⟩))
    · cases h
  | ld x n =>
    simp only [evO] at h
    generalize hp : ungE g (val σ x) = p at h
    simp only [opW, loadW]
    unfold eLd at h
    split at h
    · unfold eLdO at h
      split at h
      · rename_i hg; cases h; exact ungE_ok (by rw [hp]; exact hc.1) (by rw [hp]; simp only [hg]; exact ⟨hc.2, hK⟩)
      · rename_i hg
        unfold eAgg at h
        split at h <;> cases h
        rename_i he
        exact ungE_ok (by rw [hp]; exact hc.1) (by rw [hp]; simp only [hg]; exact ⟨hc.2, eClosed_ok he hK⟩)
      · cases h
    · unfold eLdR at h
      split at h <;> cases h <;> rename_i hg <;> exact ungE_ok (by rw [hp]; exact hc.1) (by rw [hp]; simp only [hg]; exact ⟨hc.2, hK⟩)
    · split at h <;> cases h <;> exact ungE_ok (by rw [hp]; exact hc.1) (by rw [hp]; exact ⟨hc.2, hK⟩)
    · cases h
  | st x v n =>
    simp only [evO] at h
    simp only [opW, storeW]
    unfold eSt at h
    split at h
    · rename_i h1
      unfold eStO at h
      split at h
      · rename_i hg; cases h; simp only [h1, hg]; exact ⟨hc.1, hc.2, hK⟩
      · rename_i hg
        split at h
        · rename_i h2; cases h; simp only [h1, hg, h2]; exact ⟨hc, hK⟩
        · cases h
      · cases h
    · rename_i h1
      unfold eStR at h
      split at h
      · rename_i h2 hg; cases h; simp only [h1, hg, h2]; exact ⟨hc.1, hc.2, hK⟩
      · rename_i h2 hg; cases h; simp only [h1, hg, h2]; exact ⟨hc, hK⟩
      · cases h
    · cases h
  | nck x =>
    simp only [evO] at h
    generalize hp : ungE g (val σ x) = p at h
    unfold eNck at h
    split at h
    · unfold eNckO at h
      split at h <;> cases h
      rename_i hg; exact ungE_ok (by rw [hp]; exact hc) (by rw [hp]; simp only [hg]; exact hK)
    · cases h; exact ungE_ok (by rw [hp]; exact hc) (by rw [hp]; exact hK)
    · unfold eNckR at h
      split at h <;> cases h
      · rename_i hg; exact ungE_ok (by rw [hp]; exact hc) (by rw [hp]; simp only [hg]; exact hK)
      · rename_i hg; exact ungE_ok (by rw [hp]; exact hc) (by rw [hp]; simp only [hg]; exact hK)
    · cases h
  | alloc z => cases h; exact ⟨hc, hK⟩
  | box x =>
    simp only [evO] at h
    simp only [opW]
    unfold eBox at h
    split at h <;> cases h <;> rename_i h1 <;> simp only [h1] <;> first | exact ⟨⟨hc.1, hc.2⟩, hK⟩ | exact ⟨⟨hc, rfl⟩, hK⟩
  | bld z ps =>
    simp only [evO] at h
    unfold eBldF at h
    split at h <;> cases h
    rename_i he
    exact eBld_ok he hc hK
  | bsl e ps =>
    simp only [evO] at h
    unfold eBslF at h
    split at h <;> cases h
    rename_i he
    exact eClosed_ok he ⟨⟨hc.1, hc.2⟩, hK⟩
  | slc x lo hi m e =>
    simp only [evO] at h
    generalize hp : ungE g (val σ x) = p at h
    unfold eSlc at h
    split at h
    case h_2 => cases h
    rename_i h1 h2 h3
    have hcc : ∀ (c' : Prop) (F : AV → Option Int → Option Int → Option Int → Prop), True := fun _ _ => trivial
    unfold eSlcV at h
    split at h
    · unfold eSlcR at h
      split at h <;> cases h
      · rename_i hg
        exact ungE_ok (by rw [hp]; exact hc.1.1) (by rw [hp]; exact eOpt_ok h1 hc.1.2.1 (eOpt_ok h2 hc.1.2.2.1 (eOpt_ok h3 hc.1.2.2.2 (by simp only [hg]; exact ⟨hc.2.1, hc.2.2.1, bnd_ok hc.2.2.2 hK⟩))))
      · rename_i hg
        exact ungE_ok (by rw [hp]; exact hc.1.1) (by rw [hp]; exact eOpt_ok h1 hc.1.2.1 (eOpt_ok h2 hc.1.2.2.1 (eOpt_ok h3 hc.1.2.2.2 (by simp only [hg]; exact ⟨hc.2.1, hc.2.2.1, bnd_ok hc.2.2.2 hK⟩))))
    · cases h
      exact ungE_ok (by rw [hp]; exact hc.1.1) (by rw [hp]; exact eOpt_ok h1 hc.1.2.1 (eOpt_ok h2 hc.1.2.2.1 (eOpt_ok h3 hc.1.2.2.2 ⟨hc.2.1, bnd_ok hc.2.2 hK⟩)))
    · cases h
      exact ungE_ok (by rw [hp]; exact hc.1.1) (by rw [hp]; exact eOpt_ok h1 hc.1.2.1 (eOpt_ok h2 hc.1.2.2.1 (eOpt_ok h3 hc.1.2.2.2 (bnd_ok hc.2 hK))))
    · cases h
  | ssl x lo hi =>
    simp only [evO] at h
    generalize hp : ungE g (val σ x) = p at h
    unfold eSsl at h
    split at h <;> cases h
    rename_i h1 h2
    exact ungE_ok (by rw [hp]; exact hc.1.1) (by rw [hp]; exact eOpt_ok h1 hc.1.2.1 (eOpt_ok h2 hc.1.2.2 (bnd_ok hc.2 hK)))
  | app x y e b s =>
    simp only [evO] at h
    simp only [opW]
    unfold eApp at h
    split at h
    · rename_i h1 h2
      cases h
      refine eElems_ok h2 hc.1 ?_
      simp only [h1]
      exact ⟨hc.2, hK⟩
    · rename_i h1 h2
      unfold eAppR at h
      split at h <;> cases h
      rename_i hg
      refine eElems_ok h2 hc.1 ?_
      simp only [h1, hg]
      exact ⟨hc.2, hK⟩
    · cases h
  | call f as => cases h
  | isnil x neg =>
    simp only [evO] at h
    generalize hp : ungE g (val σ x) = p at h
    unfold eNil at h
    split at h
    · cases h; exact ungE_ok (by rw [hp]; exact hc) (by rw [hp]; exact hK)
    · cases h; exact ungE_ok (by rw [hp]; exact hc.1) (by rw [hp]; exact ⟨hc.2, hK⟩)
    · unfold eNilR at h
      split at h <;> cases h
      · rename_i hg; exact ungE_ok (by rw [hp]; exact hc.1) (by rw [hp]; simp only [hg]; exact ⟨hc.2, hK⟩)
      · rename_i hg; exact ungE_ok (by rw [hp]; exact hc.1) (by rw [hp]; simp only [hg]; exact ⟨hc.2, hK⟩)
    · cases h

/-- One step. -/
def grd3 (b : Bool) : R3 → R3
  | some (c, v, []) => some (c, flat b v, [])
  | none => some (b = false, .grd b (.c .undef), [])
  | _ => none
def evG (P : Program) (σ : Slots) (H : LH) (u : Nat) (io : Ins) (want : Bool) : AV → R3
  | .c (.bool b) => grd3 (b == want) (evO ((b == want) = true) σ H u io)
  | .grd b' (.c (.bool b)) => grd3 (b' && (b == want)) (evO ((b' && (b == want)) = true) σ H u io)
  | _ => none
def evS (P : Program) (σ : Slots) (H : LH) : IOp → R3
  | ⟨_, u, none, io⟩ => evO True σ H u io
  | ⟨_, u, some (t, want), io⟩ => evG P σ H u io want (Slots.get σ t)
theorem grd3_ok {b : Bool} {o : R3} (h : grd3 b o = some (c, av, ws)) : ws = [] ∧ ((∃ v, o = some (c, v, []) ∧ av = flat b v) ∨ (c = (b = false) ∧ av = flat b (.c .undef))) := by
  unfold grd3 at h
  split at h
  · cases h; exact ⟨rfl, .inl ⟨_, rfl, rfl⟩⟩
  · cases h; exact ⟨rfl, .inr ⟨rfl, rfl⟩⟩
  · cases h
theorem evS_ok {i : IOp} (h : evS P σ H i = some (c, av, ws)) (hc : c) (hK : K av ws) : stepW P σ H i K := by
  obtain ⟨d, u, gd, io⟩ := i
  cases gd with
  | none => exact evO_ok h hc hK
  | some tw =>
    obtain ⟨t, want⟩ := tw
    simp only [evS] at h
    simp only [stepW]
    unfold evG at h
    split at h
    · rename_i h1
      simp only [h1]
      obtain ⟨rfl, ⟨v, he, rfl⟩ | ⟨rfl, rfl⟩⟩ := grd3_ok h
      · exact .inl (evO_ok he hc ⟨rfl, hK⟩)
      · exact .inr ⟨hc, _, hK⟩
    · rename_i h1
      simp only [h1]
      obtain ⟨rfl, ⟨v, he, rfl⟩ | ⟨rfl, rfl⟩⟩ := grd3_ok h
      · exact .inl (evO_ok he hc ⟨rfl, hK⟩)
      · exact .inr ⟨hc, _, hK⟩
    · cases h

universe uu
/-- Bars simp from what the continuation says. -/
structure Bar {α : Sort uu} (x : α) : Type where
/-- What is reckoned out, then the rest. -/
def go3 (K : AV → List (Nat × LObj) → Prop) (b : Bar K) : R3 → Prop
  | some (c, v, ws) => c ∧ K v ws
  | none => False
theorem go3_some {b : Bar K} : go3 K b (some (c, av, ws)) = (c ∧ K av ws) := (rfl)
theorem go3_ok {b : Bar K} {i : IOp} (h : go3 K b (evS P σ H i)) : stepW P σ H i K := by
  generalize he : evS P σ H i = o at h
  cases o with
  | none => exact h.elim
  | some x => obtain ⟨c, v, ws⟩ := x; exact evS_ok he h.1 h.2
end
end Go.Proofs.Ytcpdnpaedkcebaa.V
