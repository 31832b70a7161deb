/- Towards the law PackUnpacks (what pack.Unpack tells), part 3: the texts Vs Vt Vu Vq Vw Vx Vy Zc Zd Wa Ya Yb Wd Yc, what of them is used. -/
import Derived.Test.YtcpdnpaedkcebaaZPackUnpacks2
namespace Go.Proofs.Ytcpdnpaedkcebaa.V
open Go Go.RowKit
set_option linter.unusedVariables false
set_option linter.unusedSimpArgs false
abbrev R3 := Option (Prop × AV × List (Nat × LObj))
def ungE (g : Prop) : AV → Prop × AV
  | .grd b v => ((g → b = true), v)
  | .c v => (True, .c v)
  | .ref i o => (True, .ref i o)
  | .osl i o l => (True, .osl i o l)
  | .eptr i k f => (True, .eptr i k f)
  | .vptr cs => (True, .vptr cs)
  | .tup l => (True, .tup l)
def lift3 (c : Prop) : Option (Prop × CV) → R3
  | some (d, v) => some (c ∧ d, .c v, [])
  | none => none
def eBinI (g : Prop) (k : IntKind) (x y : Int) : BinOp → Option (Prop × CV)
  | .add => some (True, .int k (k.wrap (x + y)))
  | .sub => some (True, .int k (k.wrap (x - y)))
  | .mul => some (True, .int k (k.wrap (x * y)))
  | .quo => some ((g → y ≠ 0), .int k (k.wrap (x.tdiv y)))
  | .rem => some ((g → y ≠ 0), .int k (x.tmod y))
  | .and => some (True, .int k (bitI .and k x y))
  | .or => some (True, .int k (bitI .or k x y))
  | .xor => some (True, .int k (bitI .xor k x y))
  | .eql => some (True, .bool (x == y))
  | .neq => some (True, .bool (x != y))
  | .lss => some (True, .bool (decide (x < y)))
  | .leq => some (True, .bool (decide (x ≤ y)))
  | .gtr => some (True, .bool (decide (y < x)))
  | .geq => some (True, .bool (decide (y ≤ x)))
  | _ => none
def eInt (g : Prop) (k k' : IntKind) (x y : Int) : BinOp → Option (Prop × CV)
  | .shl => some ((g → 0 ≤ y), .int k (k.wrap (x * 2 ^ (min y.toNat k.bits))))
  | .shr => some ((g → 0 ≤ y), .int k (x.fdiv (2 ^ (min y.toNat k.bits))))
  | op => match eBinI g k x y op with
    | some (d, v) => some (k = k' ∧ d, v)
    | none => none
def eStr (x y : ByteArray) : BinOp → Option (Prop × CV)
  | .eql => some (True, .bool (x.toList == y.toList))
  | .neq => some (True, .bool (!(x.toList == y.toList)))
  | _ => none
def eFlt (x y : Nat) : BinOp → Option (Prop × CV)
  | .eql => some (True, .bool (FloatKind.format .f64 |>.order x y |> (· == some .eq)))
  | .neq => some (True, .bool (FloatKind.format .f64 |>.order x y |> (· != some .eq)))
  | _ => none
def eBin (g : Prop) (op : BinOp) : Prop × AV → Prop × AV → R3
  | (c, .c (.int k a)), (c', .c (.int k' b)) => lift3 (c ∧ c') (eInt g k k' a b op)
  | (c, .c (.str a)), (c', .c (.str b)) => lift3 (c ∧ c') (eStr a b op)
  | (c, .c (.flt a)), (c', .c (.flt b)) => lift3 (c ∧ c') (eFlt a b op)
  | _, _ => none
def eBeq : Prop × AV → Prop × AV → R3
  | (c, .c (.bool p)), (c', .c (.bool q)) => some (c ∧ c', .c (.bool (p == q)), [])
  | _, _ => none
def eBne : Prop × AV → Prop × AV → R3
  | (c, .c (.bool p)), (c', .c (.bool q)) => some (c ∧ c', .c (.bool (p != q)), [])
  | _, _ => none
def ePick (g0 : Prop) : Prop × AV → AV → AV → R3
  | (c, .c (.bool t)), .c (.bool p), .c (.bool q) => some (c, .c (.bool (if t then p else q)), [])
  | (c, .c (.bool t)), .grd g (.c (.bool p)), .c (.bool q) => some (c ∧ (g0 → t = true → g = true), .c (.bool (if t then p else q)), [])
  | (c, .c (.bool t)), .c (.bool p), .grd g (.c (.bool q)) => some (c ∧ (g0 → t = false → g = true), .c (.bool (if t then p else q)), [])
  | (c, .c (.bool t)), .grd g (.c (.bool p)), .grd g' (.c (.bool q)) => some (c ∧ (g0 → t = true → g = true) ∧ (g0 → t = false → g' = true), .c (.bool (if t then p else q)), [])
  | (c, .c (.bool t)), .c (.bool p), _ => some (c ∧ (g0 → t = true), .c (.bool p), [])
  | (c, .c (.bool t)), _, .c (.bool q) => some (c ∧ (g0 → t = false), .c (.bool q), [])
  | (c, .c (.bool t)), .grd g (.c (.bool p)), _ => some (c ∧ (g0 → t = true ∧ g = true), .c (.bool p), [])
  | (c, .c (.bool t)), _, .grd g (.c (.bool q)) => some (c ∧ (g0 → t = false ∧ g = true), .c (.bool q), [])
  | _, _, _ => none
def eNot : Prop × AV → R3
  | (c, .c (.bool b)) => some (c, .c (.bool !b), [])
  | _ => none
def eCpl : Prop × AV → R3
  | (c, .c (.int k n)) => some (c, .c (.int k (bitI .xor k (if k.signed then -1 else k.max) n)), [])
  | _ => none
def eConv (k : IntKind) : Prop × AV → R3
  | (c, .c (.int _ n)) => some (c, .c (.int k (k.wrap n)), [])
  | _ => none
def eRowLen (len : Nat) : Option LObj → Option Nat
  | some (.row _ xs) => some len
  | some (.vrow _ xs) => some len
  | _ => none
def eNat (c : Prop) : Option Nat → R3
  | some n => some (c, .c (.int .i64 n), [])
  | none => none
def eLen (H : LH) : Bool → Prop × AV → R3
  | true, (c, .c (.str s)) => some (c, .c (.int .i64 s.size), [])
  | false, (c, .c .nilsl) => some (c, .c (.int .i64 (0 : Nat)), [])
  | false, (c, .c (.sl _ xs)) => some (c, .c (.int .i64 xs.length), [])
  | false, (c, .osl i off len) => eNat c (eRowLen len (LH.get H i))
  | _, _ => none
def eRow (esz off len : Nat) : Option LObj → Option (Prop × List CV)
  | some (.row e xs) => some (e = esz, (xs.drop off).take len)
  | some (.vrow e xs) => some (e = esz, (xs.drop off).take len)
  | _ => none
def eElems (H : LH) (str : Bool) (esz : Nat) : AV → Option (Prop × List CV)
  | .c .nilsl => some (True, [])
  | .c (.sl s xs) => some (s = esz, xs)
  | .c (.str s) => some (str = true ∧ esz = 1, strCells s)
  | .osl i off len => eRow esz off len (LH.get H i)
  | _ => none
def eB2s (c : Prop) : Option (Prop × List CV) → R3
  | some (d, xs) => some (c ∧ d ∧ ∀ x ∈ xs, isU8 x, .c (.str (mkStr xs)), [])
  | none => none
def eB2s' (H : LH) : Prop × AV → R3
  | (c, v) => eB2s c (eElems H false 1 v)
def eS2b (H : LH) (u : Nat) : AV → R3
  | .c (.str s) => some (fresh H u ∧ s.size ≤ 2 ^ 47, .osl (64 * u) 0 (strCells s).length, [(64 * u, .row 1 (strCells s))])
  | _ => none
def eMn : Prop × AV → Prop × AV → R3
  | (c, .c (.int k a)), (c', .c (.int k' b)) => some (c ∧ c' ∧ k = k', .c (.int k (if b < a then b else a)), [])
  | _, _ => none
def eMx : Prop × AV → Prop × AV → R3
  | (c, .c (.int k a)), (c', .c (.int k' b)) => some (c ∧ c' ∧ k = k', .c (.int k (if a < b then b else a)), [])
  | _, _ => none
def eExt (i : Nat) : Prop × AV → R3
  | (c, .tup l) => some (c ∧ i < l.length, l.getD i (.c .undef), [])
  | _ => none
def eSidx (g : Prop) : Prop × AV → Prop × AV → R3
  | (c, .c (.str s)), (c', .c (.int _ n)) => some (c ∧ c' ∧ (g → 0 ≤ n ∧ n < s.size), .c (u8 (s.data.toList.getD n.toNat 0)), [])
  | _, _ => none
def eAidx (g : Prop) (m : Nat) : Prop × AV → Prop × AV → R3
  | (c, .c (.agg cs)), (c', .c (.int _ n)) => some (c ∧ c' ∧ cs.length = m ∧ (g → 0 ≤ n ∧ n < m), .c (cs.getD n.toNat .undef), [])
  | _, _ => none
def eFaO (c : Prop) (i o : Nat) : Option LObj → R3
  | some (.obj cs) => some (c ∧ o ≤ cs.length, .ref i o, [])
  | _ => none
def eFaR (c : Prop) (i idx f : Nat) : Option LObj → R3
  | some (.row _ _) => some (c, .eptr i idx f, [])
  | some (.vrow _ _) => some (c, .eptr i idx f, [])
  | _ => none
def eFa (H : LH) (off : Nat) : Prop × AV → R3
  | (c, .ref i o) => eFaO c i (o + off) (LH.get H i)
  | (c, .eptr i idx f) => eFaR c i idx (f + off) (LH.get H i)
  | (c, .vptr cs) => some (c, .vptr (cs.drop off), [])
  | _ => none
def eIaR (g c : Prop) (id off len esz : Nat) (n : Int) : Option LObj → R3
  | some (.row e xs) => some (c ∧ e = esz ∧ (g → 0 ≤ n ∧ n < len), .eptr id (off + n.toNat) 0, [])
  | some (.vrow e xs) => some (c ∧ e = esz ∧ (g → 0 ≤ n ∧ n < len), .eptr id (off + n.toNat) 0, [])
  | _ => none
def eIa (g : Prop) (H : LH) (esz : Nat) : Prop × AV → Prop × AV → R3
  | (c, .osl id off len), (c', .c (.int _ n)) => eIaR g (c ∧ c') id off len esz n (LH.get H id)
  | (c, .c (.sl e xs)), (c', .c (.int _ n)) => some (c ∧ c' ∧ e = esz ∧ (g → 0 ≤ n ∧ n < xs.length), .vptr (xs.getD n.toNat .undef).cells, [])
  | _, _ => none
def eClosed : List AV → Option (List CV)
  | [] => some []
  | .c v :: l => match eClosed l with
    | some vs => some (v :: vs)
    | none => none
  | _ => none
def eAgg (c : Prop) : Option (List CV) → R3
  | some vs => some (c, .c (.agg vs), [])
  | none => none
def eLdO (c : Prop) (off : Nat) : Option Nat → Option LObj → R3
  | none, some (.obj cs) => some (c ∧ off < cs.length, cs.getD off (.c .undef), [])
  | some n, some (.obj cs) => eAgg (c ∧ off + n ≤ cs.length) (eClosed ((cs.drop off).take n))
  | _, _ => none
def eLdR (g c : Prop) (idx f : Nat) : Option Nat → Option LObj → R3
  | none, some (.row e xs) => some (c ∧ (g → f < e), .c ((xs.getD idx .undef).cells.getD f .undef), [])
  | some n, some (.row e xs) => some (c ∧ (g → f + n ≤ e), .c (.agg (((xs.getD idx .undef).cells.drop f).take n)), [])
  | none, some (.vrow e xs) => some (c ∧ (g → f < e), .c ((xs.getD idx .undef).cells.getD f .undef), [])
  | some n, some (.vrow e xs) => some (c ∧ (g → f + n ≤ e), .c (.agg (((xs.getD idx .undef).cells.drop f).take n)), [])
  | _, _ => none
def eLd (g : Prop) (H : LH) (n : Option Nat) : Prop × AV → R3
  | (c, .ref i off) => eLdO c off n (LH.get H i)
  | (c, .eptr i idx f) => eLdR g c idx f n (LH.get H i)
  | (c, .vptr cs) => match n with
    | none => some (c ∧ (g → 0 < cs.length), .c (cs.getD 0 .undef), [])
    | some n => some (c ∧ (g → n ≤ cs.length), .c (.agg (cs.take n)), [])
  | _ => none
def eStO (H : LH) (i off : Nat) (v : AV) : Option Nat → Option LObj → R3
  | none, some (.obj cs) => some (off < cs.length ∧ storable H v, .c .undef, [(i, .obj (cs.set off v))])
  | some n, some (.obj cs) => match v with
    | .c (.agg vs) => some ((vs.length = n ∧ off + n ≤ cs.length ∧ ∀ c ∈ vs, c.one = true), .c .undef, [(i, .obj (cs.take off ++ vs.map .c ++ cs.drop (off + n)))])
    | _ => none
  | _, _ => none
def eStR (i idx f : Nat) : AV → Option Nat → Option LObj → R3
  | .c v, none, some (.row e xs) => some (f < e ∧ v.one = true, .c .undef, [(i, .row e (xs.set idx (setC (xs.getD idx .undef) f v)))])
  | .c (.agg vs), some n, some (.row e xs) => some ((vs.length = n ∧ f = 0 ∧ n = e ∧ ∀ c ∈ vs, c.one = true), .c .undef, [(i, .row e (xs.set idx (.agg vs)))])
  | _, _, _ => none
def eSt (H : LH) (v : AV) (n : Option Nat) : AV → R3
  | .ref i off => eStO H i off v n (LH.get H i)
  | .eptr i idx f => eStR i idx f v n (LH.get H i)
  | _ => none
def eNckO (c : Prop) (v : AV) : Option LObj → R3
  | some (.obj _) => some (c, v, [])
  | _ => none
def eNckR (c : Prop) (v : AV) : Option LObj → R3
  | some (.row _ _) => some (c, v, [])
  | some (.vrow _ _) => some (c, v, [])
  | _ => none
def eNck (H : LH) : Prop × AV → R3
  | (c, .ref i o) => eNckO c (.ref i o) (LH.get H i)
  | (c, .vptr cs) => some (c, .vptr cs, [])
  | (c, .eptr i k f) => eNckR c (.eptr i k f) (LH.get H i)
  | _ => none
def eBox (H : LH) (u : Nat) : AV → R3
  | .c (.agg vs) => some (fresh H u ∧ ∀ c ∈ vs, c.one = true, .ref (64 * u) 0, [(64 * u, .obj (vs.map .c))])
  | .c (.bool b) => some (fresh H u, .ref (64 * u) 0, [(64 * u, .obj [.c (.bool b)])])
  | .c (.int k n) => some (fresh H u, .ref (64 * u) 0, [(64 * u, .obj [.c (.int k n)])])
  | .c .nilsl => some (fresh H u, .ref (64 * u) 0, [(64 * u, .obj [.c .nilsl])])
  | .c (.sl e xs) => some (fresh H u, .ref (64 * u) 0, [(64 * u, .obj [.c (.sl e xs)])])
  | .c (.str s) => some (fresh H u, .ref (64 * u) 0, [(64 * u, .obj [.c (.str s)])])
  | .osl i o l => some (fresh H u ∧ storable H (.osl i o l), .ref (64 * u) 0, [(64 * u, .obj [.osl i o l])])
  | .ref i o => some (fresh H u ∧ storable H (.ref i o), .ref (64 * u) 0, [(64 * u, .obj [.ref i o])])
  | _ => none
def eBldC (z : List CV) (i : Nat) (k : List CV → Option (Prop × List CV)) : Prop × AV → Option (Prop × List CV)
  | (c, .c v) => match k (z.set i v) with
    | some (d, cs) => some ((c ∧ i < z.length ∧ v.one = true) ∧ d, cs)
    | none => none
  | _ => none
def eBld (σ : Slots) (g : Prop) : List (Nat × Opd) → List CV → Option (Prop × List CV)
  | [], z => some (True, z)
  | (i, x) :: ps, z => eBldC z i (eBld σ g ps) (ungE g (val σ x))
def eBldF : Option (Prop × List CV) → R3
  | some (c, cs) => some (c, .c (.agg cs), [])
  | none => none
def eBslF (H : LH) (u esz : Nat) : Option (List CV) → R3
  | some vs => some (fresh H u ∧ ∀ v ∈ vs, v.wf esz ∧ (v.one = true ∨ ∃ cs, v = .agg cs), .osl (64 * u) 0 vs.length, [(64 * u, .row esz vs)])
  | none => none
def eIntO : Prop × AV → Option (Prop × Option Int)
  | (c, .c (.int _ n)) => some (c, some n)
  | _ => none
def eOpt (g : Prop) (σ : Slots) : Option Opd → Option (Prop × Option Int)
  | none => some (True, none)
  | some x => eIntO (ungE g (val σ x))
def bndP (g : Prop) (len : Nat) (lo hi mx : Option Int) : Prop :=
  g → 0 ≤ lo.getD 0 ∧ lo.getD 0 ≤ hi.getD len ∧ hi.getD len ≤ mx.getD (hi.getD len) ∧ hi.getD len ≤ len ∧ mx.getD len ≤ len
def eSlcR (g c : Prop) (id off len esz : Nat) (lo hi mx : Option Int) : Option LObj → R3
  | some (.row e xs) => some (c ∧ e = esz ∧ mx = none ∧ bndP g len lo hi mx, .osl id (off + (lo.getD 0).toNat) ((hi.getD len).toNat - (lo.getD 0).toNat), [])
  | some (.vrow e xs) => some (c ∧ e = esz ∧ mx = none ∧ bndP g len lo hi mx, .osl id (off + (lo.getD 0).toNat) ((hi.getD len).toNat - (lo.getD 0).toNat), [])
  | _ => none
def eSlcV (g : Prop) (H : LH) (esz : Nat) (c : Prop) (lo hi mx : Option Int) : AV → R3
  | .osl id off len => eSlcR g c id off len esz lo hi mx (LH.get H id)
  | .c (.sl e xs) => some (c ∧ e = esz ∧ bndP g xs.length lo hi mx, .c (.sl e ((xs.drop (lo.getD 0).toNat).take ((hi.getD xs.length).toNat - (lo.getD 0).toNat))), [])
  | .c .nilsl => some (c ∧ bndP g 0 lo hi mx, .c .nilsl, [])
  | _ => none
def eSlc (g : Prop) (H : LH) (esz : Nat) : Prop × AV → Option (Prop × Option Int) → Option (Prop × Option Int) → Option (Prop × Option Int) → R3
  | (c, v), some (c1, lo), some (c2, hi), some (c3, mx) => eSlcV g H esz (c ∧ c1 ∧ c2 ∧ c3) lo hi mx v
  | _, _, _, _ => none
def eSsl (g : Prop) : Prop × AV → Option (Prop × Option Int) → Option (Prop × Option Int) → R3
  | (c, .c (.str s)), some (c1, lo), some (c2, hi) => some ((c ∧ c1 ∧ c2) ∧ bndP g s.size lo hi none, .c (.str (s.extract (lo.getD 0).toNat (hi.getD s.size).toNat)), [])
  | _, _, _ => none
def eAppR (H : LH) (u id off len esz bytes : Nat) (d : Prop) (ys : List CV) : Option LObj → R3
  | some (.row e xs) => some (d ∧ fresh H u ∧ e = esz ∧ (len + ys.length) * bytes ≤ 140737488355328, .osl (64 * u) 0 (len + ys.length), [(64 * u, .row esz ((xs.drop off).take len ++ ys)), (id, .dead)])
  | _ => none
def eApp (H : LH) (u esz bytes : Nat) : AV → Option (Prop × List CV) → R3
  | .c .nilsl, some (d, ys) => some (d ∧ fresh H u ∧ ys.length * bytes ≤ 140737488355328, .osl (64 * u) 0 ys.length, [(64 * u, .row esz ys)])
  | .osl id off len, some (d, ys) => eAppR H u id off len esz bytes d ys (LH.get H id)
  | _, _ => none
def eNilR (g c : Prop) (neg : Bool) (len : Nat) : Option LObj → R3
  | some (.row _ _) => some (c ∧ (g → len ≠ 0), .c (.bool neg), [])
  | some (.vrow _ _) => some (c ∧ (g → len ≠ 0), .c (.bool neg), [])
  | _ => none
def eNil (g : Prop) (H : LH) (neg : Bool) : Prop × AV → R3
  | (c, .c .nilsl) => some (c, .c (.bool (!neg)), [])
  | (c, .c (.sl _ xs)) => some (c ∧ (g → xs ≠ []), .c (.bool neg), [])
  | (c, .osl i _ len) => eNilR g c neg len (LH.get H i)
  | _ => none
def evO (g : Prop) (σ : Slots) (H : LH) (u : Nat) : Ins → R3
  | .mv x => some (True, val σ x, [])
  | .pick c x y => ePick g (ungE g (val σ c)) (val σ x) (val σ y)
  | .bin op x y => eBin g op (ungE g (val σ x)) (ungE g (val σ y))
  | .not x => eNot (ungE g (val σ x))
  | .cpl x => eCpl (ungE g (val σ x))
  | .conv k x => eConv k (ungE g (val σ x))
  | .b2s x => eB2s' H (ungE g (val σ x))
  | .s2b x => eS2b H u (val σ x)
  | .len b x => eLen H b (ungE g (val σ x))
  | .mn x y => eMn (ungE g (val σ x)) (ungE g (val σ y))
  | .mx x y => eMx (ungE g (val σ x)) (ungE g (val σ y))
  | .ext x i => eExt i (ungE g (val σ x))
  | .sidx x i => eSidx g (ungE g (val σ x)) (ungE g (val σ i))
  | .aidx m x i => eAidx g m (ungE g (val σ x)) (ungE g (val σ i))
  | .fa x off => eFa H off (ungE g (val σ x))
  | .ia x i esz => eIa g H esz (ungE g (val σ x)) (ungE g (val σ i))
  | .ld x n => eLd g H n (ungE g (val σ x))
  | .st x v n => eSt H (val σ v) n (val σ x)
  | .nck x => eNck H (ungE g (val σ x))
  | .alloc z => some (fresh H u, .ref (64 * u) 0, [(64 * u, .obj (z.map .c))])
  | .box x => eBox H u (val σ x)
  | .bld z ps => eBldF (eBld σ g ps z)
  | .bsl esz ps => eBslF H u esz (eClosed (ps.map (val σ)))
  | .slc x lo hi m esz => eSlc g H esz (ungE g (val σ x)) (eOpt g σ lo) (eOpt g σ hi) (eOpt g σ m)
  | .ssl x lo hi => eSsl g (ungE g (val σ x)) (eOpt g σ lo) (eOpt g σ hi)
  | .app x y esz bytes str => eApp H u esz bytes (val σ x) (eElems H str esz (val σ y))
  | .beq x y => eBeq (ungE g (val σ x)) (ungE g (val σ y))
  | .bne x y => eBne (ungE g (val σ x)) (ungE g (val σ y))
  | .mks n z => some (fresh H u, .osl (64 * u) 0 n, [(64 * u, .row 1 (List.replicate n z))])
  | .isnil x neg => eNil g H neg (ungE g (val σ x))
  | .call _ _ => none
section
variable {P : Program} {g : Prop} {σ : Slots} {H : LH} {u : Nat} {K : AV → List (Nat × LObj) → Prop} {c : Prop} {av : AV} {ws : List (Nat × LObj)}
theorem ungE_ok {v : AV} {F : AV → Prop} (hc : (ungE g v).1) (hF : F (ungE g v).2) : ungW g v F := by
  cases v <;> first | exact hF | exact ⟨hc, hF⟩
theorem eBinI_ok {op : BinOp} {k : IntKind} {x y : Int} {v : CV} {F : CV → Prop} (h : eBinI g k x y op = some (c, v)) (hc : c) (hF : F v) : binI g op k x y F := by
  cases op <;> simp only [eBinI, Option.some.injEq, Prod.mk.injEq, reduceCtorEq] at h <;> obtain ⟨rfl, rfl⟩ := h <;> first | exact hF | exact ⟨hc, hF⟩
theorem lift3_ok {d : Prop} {o : Option (Prop × CV)} (h : lift3 d o = some (c, av, ws)) (hc : c) : ∃ e v, o = some (e, v) ∧ d ∧ e ∧ av = .c v ∧ ws = [] := by
  unfold lift3 at h
  split at h
  · cases h; exact ⟨_, _, rfl, hc.1, hc.2, rfl, rfl⟩
  · cases h
theorem eInt_ok {op : BinOp} {k k' : IntKind} {x y : Int} {v : CV} {F : CV → Prop} (h : eInt g k k' x y op = some (c, v)) (hc : c) (hF : F v) :
    (match (generalizing := false) op with
     | .shl => shI g .shl k x y F
     | .shr => shI g .shr k x y F
     | op => k = k' ∧ binI g op k x y F) := by
  cases op <;> first
    | (cases h; exact ⟨hc, hF⟩)
    | (simp only [eInt] at h
       generalize he : eBinI g k x y _ = o at h
       cases o with
       | none => cases h
       | some dv =>
         obtain ⟨d, v'⟩ := dv
         cases h
         exact ⟨hc.1, eBinI_ok he hc.2 hF⟩)
theorem eElems_ok {str : Bool} {esz : Nat} {v : AV} {ys : List CV} {F : List CV → Prop} (h : eElems H str esz v = some (c, ys)) (hc : c) (hF : F ys) : elemsW H str esz v F := by
  unfold eElems at h
  split at h
  · cases h; exact hF
  · cases h; exact ⟨hc, hF⟩
  · cases h; exact ⟨hc, hF⟩
  · unfold eRow at h
    unfold elemsW
    split at h
    · rename_i hg; cases h; simp only [hg]; exact ⟨hc, hF⟩
    · rename_i hg; cases h; simp only [hg]; exact ⟨hc, hF⟩
    · cases h
  · cases h
theorem eClosed_ok : ∀ {l : List AV} {vs : List CV} {F : List CV → Prop}, eClosed l = some vs → F vs → closedW l F
  | [], vs, F, h, hF => by cases h; exact hF
  | .c v :: l, vs, F, h, hF => by
    unfold eClosed at h
    split at h
    · rename_i vs' he; cases h; exact eClosed_ok (l := l) (F := fun vs => F (v :: vs)) he hF
    · cases h
  | .ref _ _ :: l, _, _, h, _ => by cases h
  | .osl _ _ _ :: l, _, _, h, _ => by cases h
  | .eptr _ _ _ :: l, _, _, h, _ => by cases h
  | .vptr _ :: l, _, _, h, _ => by cases h
  | .tup _ :: l, _, _, h, _ => by cases h
  | .grd _ _ :: l, _, _, h, _ => by cases h
theorem eOpt_ok {x : Option Opd} {n : Option Int} {F : Option Int → Prop} (h : eOpt g σ x = some (c, n)) (hc : c) (hF : F n) : optI g σ x F := by
  cases x with
  | none => cases h; exact hF
  | some x =>
    simp only [eOpt] at h
    generalize hp : ungE g (val σ x) = p at h
    unfold eIntO at h
    split at h <;> cases h
    exact ungE_ok (by rw [hp]; exact hc) (by rw [hp]; exact hF)
theorem eBld_ok : ∀ {ps : List (Nat × Opd)} {z cs : List CV} {c : Prop} {F : List CV → Prop}, eBld σ g ps z = some (c, cs) → c → F cs → bldW σ g z ps F
  | [], z, cs, c, F, h, hc, hF => by cases h; exact hF
  | (i, x) :: ps, z, cs, c, F, h, hc, hF => by
    simp only [eBld] at h
    generalize hp : ungE g (val σ x) = p at h
    unfold eBldC at h
    split at h
    · split at h
      · rename_i he
        cases h
        exact ungE_ok (by rw [hp]; exact hc.1.1) (by rw [hp]; exact ⟨hc.1.2, eBld_ok he hc.2 hF⟩)
      · cases h
    · cases h
theorem bnd_ok {len : Nat} {lo hi mx : Option Int} {F : Nat → Nat → Prop} (h : bndP g len lo hi mx) (hF : F (lo.getD 0).toNat (hi.getD len).toNat) : boundsW g len lo hi mx F := ⟨h, hF⟩
theorem evO_ok {io : Ins} (h : evO g σ H u io = some (c, av, ws)) (hc : c) (hK : K av ws) : opW P g σ H u io K := by
  cases io with
  | mv x => cases h; exact hK
  | pick a x y =>
    simp only [evO] at h
    generalize hp : ungE g (val σ a) = p at h
    unfold ePick at h
    split at h <;> cases h
    · refine ungE_ok (by rw [hp]; exact hc) ?_
      rw [hp]
      show pickW _ _ (val σ x) (val σ y) _
      rename_i h1 h2; rw [h1, h2]; exact hK
    · refine ungE_ok (by rw [hp]; exact hc.1) ?_
      rw [hp]
      show pickW _ _ (val σ x) (val σ y) _
      rename_i h1 h2; rw [h1, h2]; exact ⟨hc.2, hK⟩
    · refine ungE_ok (by rw [hp]; exact hc.1) ?_
      rw [hp]
      show pickW _ _ (val σ x) (val σ y) _
      rename_i h1 h2; rw [h1, h2]; exact ⟨hc.2, hK⟩
    · refine ungE_ok (by rw [hp]; exact hc.1) ?_
      rw [hp]
      show pickW _ _ (val σ x) (val σ y) _
      rename_i h1 h2; rw [h1, h2]; exact ⟨hc.2.1, hc.2.2, hK⟩
    all_goals
      refine ungE_ok (by rw [hp]; exact hc.1) ?_
      rw [hp]
      show pickW _ _ (val σ x) (val σ y) _
      unfold pickW
      split
      all_goals first
        | (exact ⟨hc.2, hK⟩)
        | simp_all
  | bin op x y =>
    simp only [evO] at h
    generalize hp : ungE g (val σ x) = p at h
    generalize hq : ungE g (val σ y) = q at h
    unfold eBin at h
    split at h
    · obtain ⟨e, v, he, hd, hce, rfl, rfl⟩ := lift3_ok h hc
      exact ungE_ok (by rw [hp]; exact hd.1) (by rw [hp]; exact ungE_ok (by rw [hq]; exact hd.2) (by rw [hq]; exact eInt_ok (F := fun v => K (.c v) []) he hce hK))
    · obtain ⟨e, v, he, hd, hce, rfl, rfl⟩ := lift3_ok h hc
      refine ungE_ok (by rw [hp]; exact hd.1) ?_
      rw [hp]
      refine ungE_ok (by rw [hq]; exact hd.2) ?_
      rw [hq]
      cases op <;> simp only [eStr, Option.some.injEq, Prod.mk.injEq, reduceCtorEq] at he <;> obtain ⟨rfl, rfl⟩ := he <;> exact hK
    · obtain ⟨e, v, he, hd, hce, rfl, rfl⟩ := lift3_ok h hc
      refine ungE_ok (by rw [hp]; exact hd.1) ?_
      rw [hp]
      refine ungE_ok (by rw [hq]; exact hd.2) ?_
      rw [hq]
      cases op <;> simp only [eFlt, Option.some.injEq, Prod.mk.injEq, reduceCtorEq] at he <;> obtain ⟨rfl, rfl⟩ := he <;> exact hK
    · cases h
  | beq x y =>
    simp only [evO] at h
    generalize hp : ungE g (val σ x) = p at h
    generalize hq : ungE g (val σ y) = q at h
    unfold eBeq at h; split at h <;> cases h
    exact ungE_ok (by rw [hp]; exact hc.1) (by rw [hp]; exact ungE_ok (by rw [hq]; exact hc.2) (by rw [hq]; exact hK))
  | bne x y =>
    simp only [evO] at h
    generalize hp : ungE g (val σ x) = p at h
    generalize hq : ungE g (val σ y) = q at h
    unfold eBne at h; split at h <;> cases h
    exact ungE_ok (by rw [hp]; exact hc.1) (by rw [hp]; exact ungE_ok (by rw [hq]; exact hc.2) (by rw [hq]; exact hK))
  | mks n z =>
    simp only [evO] at h
    cases h
    exact ⟨hc, hK⟩
  | not x =>
    simp only [evO] at h
    generalize hp : ungE g (val σ x) = p at h
    unfold eNot at h; split at h <;> cases h
    exact ungE_ok (by rw [hp]; exact hc) (by rw [hp]; exact hK)
  | cpl x =>
    simp only [evO] at h
    generalize hp : ungE g (val σ x) = p at h
    unfold eCpl at h; split at h <;> cases h
    exact ungE_ok (by rw [hp]; exact hc) (by rw [hp]; exact hK)
  | conv k x =>
    simp only [evO] at h
    generalize hp : ungE g (val σ x) = p at h
    unfold eConv at h; split at h <;> cases h
    exact ungE_ok (by rw [hp]; exact hc) (by rw [hp]; exact hK)
  | b2s x =>
    simp only [evO] at h
    generalize hp : ungE g (val σ x) = p at h
    obtain ⟨c1, v1⟩ := p
    simp only [eB2s'] at h
    unfold eB2s at h
    split at h
    · rename_i he
      cases h
      exact ungE_ok (by rw [hp]; exact hc.1) (by rw [hp]; exact eElems_ok he hc.2.1 ⟨hc.2.2, hK⟩)
    · cases h
  | s2b x =>
    simp only [evO] at h
    simp only [opW]
    unfold eS2b at h; split at h <;> cases h
    rename_i h1; simp only [h1]
    exact ⟨hc.1, hc.2, hK⟩
  | len b x =>
    simp only [evO] at h
    generalize hp : ungE g (val σ x) = p at h
    simp only [opW, lenW]
    unfold eLen at h
    split at h
    · cases h; exact ungE_ok (by rw [hp]; exact hc) (by rw [hp]; exact hK)
    · cases h; exact ungE_ok (by rw [hp]; exact hc) (by rw [hp]; exact hK)
    · cases h; exact ungE_ok (by rw [hp]; exact hc) (by rw [hp]; exact hK)
    · unfold eNat at h
      split at h
      · rename_i n hn
        unfold eRowLen at hn
        split at hn
        · rename_i hg; cases hn; cases h; exact ungE_ok (by rw [hp]; exact hc) (by rw [hp]; simp only [hg]; exact hK)
        · rename_i hg; cases hn; cases h; exact ungE_ok (by rw [hp]; exact hc) (by rw [hp]; simp only [hg]; exact hK)
        · cases hn
      · cases h
    · cases h
  | mn x y =>
    simp only [evO] at h
    generalize hp : ungE g (val σ x) = p at h
    generalize hq : ungE g (val σ y) = q at h
    unfold eMn at h; split at h <;> cases h
    exact ungE_ok (by rw [hp]; exact hc.1) (by rw [hp]; exact ungE_ok (by rw [hq]; exact hc.2.1) (by rw [hq]; exact ⟨hc.2.2, hK⟩))
  | mx x y =>
    simp only [evO] at h
    generalize hp : ungE g (val σ x) = p at h
    generalize hq : ungE g (val σ y) = q at h
    unfold eMx at h; split at h <;> cases h
    exact ungE_ok (by rw [hp]; exact hc.1) (by rw [hp]; exact ungE_ok (by rw [hq]; exact hc.2.1) (by rw [hq]; exact ⟨hc.2.2, hK⟩))
  | ext x i =>
    simp only [evO] at h
    generalize hp : ungE g (val σ x) = p at h
    unfold eExt at h; split at h <;> cases h
    exact ungE_ok (by rw [hp]; exact hc.1) (by rw [hp]; exact ⟨hc.2, hK⟩)
  | sidx x i =>
    simp only [evO] at h
    generalize hp : ungE g (val σ x) = p at h
    generalize hq : ungE g (val σ i) = q at h
    unfold eSidx at h; split at h <;> cases h
    exact ungE_ok (by rw [hp]; exact hc.1) (by rw [hp]; exact ungE_ok (by rw [hq]; exact hc.2.1) (by rw [hq]; exact ⟨hc.2.2, hK⟩))
  | aidx n x i =>
    simp only [evO] at h
    generalize hp : ungE g (val σ x) = p at h
    generalize hq : ungE g (val σ i) = q at h
    unfold eAidx at h; split at h <;> cases h
    exact ungE_ok (by rw [hp]; exact hc.1) (by rw [hp]; exact ungE_ok (by rw [hq]; exact hc.2.1) (by rw [hq]; exact ⟨hc.2.2.1, hc.2.2.2, hK⟩))
  | fa x off =>
    simp only [evO] at h
    generalize hp : ungE g (val σ x) = p at h
    unfold eFa at h
    split at h
    · unfold eFaO at h
      split at h <;> cases h
      rename_i hg; exact ungE_ok (by rw [hp]; exact hc.1) (by rw [hp]; simp only [hg]; exact ⟨hc.2, hK⟩)
    · unfold eFaR at h
      split at h <;> cases h
      · rename_i hg; exact ungE_ok (by rw [hp]; exact hc) (by rw [hp]; simp only [hg]; exact hK)
      · rename_i hg; exact ungE_ok (by rw [hp]; exact hc) (by rw [hp]; simp only [hg]; exact hK)
    · cases h; exact ungE_ok (by rw [hp]; exact hc) (by rw [hp]; exact hK)
    · cases h
  | ia x i e =>
    simp only [evO] at h
    generalize hp : ungE g (val σ x) = p at h
    generalize hq : ungE g (val σ i) = q at h
    unfold eIa at h
    split at h
    · unfold eIaR at h
      split at h <;> cases h
      · rename_i hg; exact ungE_ok (by rw [hp]; exact hc.1.1) (by rw [hp]; exact ungE_ok (by rw [hq]; exact hc.1.2) (by rw [hq]; simp only [hg]; exact ⟨hc.2.1, hc.2.2, hK⟩))
      · rename_i hg; exact ungE_ok (by rw [hp]; exact hc.1.1) (by rw [hp]; exact ungE_ok (by rw [hq]; exact hc.1.2) (by rw [hq]; simp only [hg]; exact ⟨hc.2.1, hc.2.2, hK⟩))
    · cases h; exact ungE_ok (by rw [hp]; exact hc.1) (by rw [hp]; exact ungE_ok (by rw [hq]; exact hc.2.1) (by rw [hq]; exact ⟨hc.2.2.1, hc.2.2.2, hK⟩))
    · cases h
  | ld x n =>
    simp only [evO] at h
    generalize hp : ungE g (val σ x) = p at h
    simp only [opW, loadW]
    unfold eLd at h
    split at h
    · unfold eLdO at h
      split at h
      · rename_i hg; cases h; exact ungE_ok (by rw [hp]; exact hc.1) (by rw [hp]; simp only [hg]; exact ⟨hc.2, hK⟩)
      · rename_i hg
        unfold eAgg at h
        split at h <;> cases h
        rename_i he
        exact ungE_ok (by rw [hp]; exact hc.1) (by rw [hp]; simp only [hg]; exact ⟨hc.2, eClosed_ok he hK⟩)
      · cases h
    · unfold eLdR at h
      split at h <;> cases h <;> rename_i hg <;> exact ungE_ok (by rw [hp]; exact hc.1) (by rw [hp]; simp only [hg]; exact ⟨hc.2, hK⟩)
    · split at h <;> cases h <;> exact ungE_ok (by rw [hp]; exact hc.1) (by rw [hp]; exact ⟨hc.2, hK⟩)
    · cases h
  | st x v n =>
    simp only [evO] at h
    simp only [opW, storeW]
    unfold eSt at h
    split at h
    · rename_i h1
      unfold eStO at h
      split at h
      · rename_i hg; cases h; simp only [h1, hg]; exact ⟨hc.1, hc.2, hK⟩
      · rename_i hg
        split at h
        · rename_i h2; cases h; simp only [h1, hg, h2]; exact ⟨hc, hK⟩
        · cases h
      · cases h
    · rename_i h1
      unfold eStR at h
      split at h
      · rename_i h2 hg; cases h; simp only [h1, hg, h2]; exact ⟨hc.1, hc.2, hK⟩
      · rename_i h2 hg; cases h; simp only [h1, hg, h2]; exact ⟨hc, hK⟩
      · cases h
    · cases h
  | nck x =>
    simp only [evO] at h
    generalize hp : ungE g (val σ x) = p at h
    unfold eNck at h
    split at h
    · unfold eNckO at h
      split at h <;> cases h
      rename_i hg; exact ungE_ok (by rw [hp]; exact hc) (by rw [hp]; simp only [hg]; exact hK)
    · cases h; exact ungE_ok (by rw [hp]; exact hc) (by rw [hp]; exact hK)
    · unfold eNckR at h
      split at h <;> cases h
      · rename_i hg; exact ungE_ok (by rw [hp]; exact hc) (by rw [hp]; simp only [hg]; exact hK)
      · rename_i hg; exact ungE_ok (by rw [hp]; exact hc) (by rw [hp]; simp only [hg]; exact hK)
    · cases h
  | alloc z => cases h; exact ⟨hc, hK⟩
  | box x =>
    simp only [evO] at h
    simp only [opW]
    unfold eBox at h
    split at h <;> cases h <;> rename_i h1 <;> simp only [h1] <;> first | exact ⟨⟨hc.1, hc.2⟩, hK⟩ | exact ⟨⟨hc, rfl⟩, hK⟩
  | bld z ps =>
    simp only [evO] at h
    unfold eBldF at h
    split at h <;> cases h
    rename_i he
    exact eBld_ok he hc hK
  | bsl e ps =>
    simp only [evO] at h
    unfold eBslF at h
    split at h <;> cases h
    rename_i he
    exact eClosed_ok he ⟨⟨hc.1, hc.2⟩, hK⟩
  | slc x lo hi m e =>
    simp only [evO] at h
    generalize hp : ungE g (val σ x) = p at h
    unfold eSlc at h
    split at h
    case h_2 => cases h
    rename_i h1 h2 h3
    have hcc : ∀ (c' : Prop) (F : AV → Option Int → Option Int → Option Int → Prop), True := fun _ _ => trivial
    unfold eSlcV at h
    split at h
    · unfold eSlcR at h
      split at h <;> cases h
      · rename_i hg
        exact ungE_ok (by rw [hp]; exact hc.1.1) (by rw [hp]; exact eOpt_ok h1 hc.1.2.1 (eOpt_ok h2 hc.1.2.2.1 (eOpt_ok h3 hc.1.2.2.2 (by simp only [hg]; exact ⟨hc.2.1, hc.2.2.1, bnd_ok hc.2.2.2 hK⟩))))
      · rename_i hg
        exact ungE_ok (by rw [hp]; exact hc.1.1) (by rw [hp]; exact eOpt_ok h1 hc.1.2.1 (eOpt_ok h2 hc.1.2.2.1 (eOpt_ok h3 hc.1.2.2.2 (by simp only [hg]; exact ⟨hc.2.1, hc.2.2.1, bnd_ok hc.2.2.2 hK⟩))))
    · cases h
      exact ungE_ok (by rw [hp]; exact hc.1.1) (by rw [hp]; exact eOpt_ok h1 hc.1.2.1 (eOpt_ok h2 hc.1.2.2.1 (eOpt_ok h3 hc.1.2.2.2 ⟨hc.2.1, bnd_ok hc.2.2 hK⟩)))
    · cases h
      exact ungE_ok (by rw [hp]; exact hc.1.1) (by rw [hp]; exact eOpt_ok h1 hc.1.2.1 (eOpt_ok h2 hc.1.2.2.1 (eOpt_ok h3 hc.1.2.2.2 (bnd_ok hc.2 hK))))
    · cases h
  | ssl x lo hi =>
    simp only [evO] at h
    generalize hp : ungE g (val σ x) = p at h
    unfold eSsl at h
    split at h <;> cases h
    rename_i h1 h2
    exact ungE_ok (by rw [hp]; exact hc.1.1) (by rw [hp]; exact eOpt_ok h1 hc.1.2.1 (eOpt_ok h2 hc.1.2.2 (bnd_ok hc.2 hK)))
  | app x y e b s =>
    simp only [evO] at h
    simp only [opW]
    unfold eApp at h
    split at h
    · rename_i h1 h2
      cases h
      refine eElems_ok h2 hc.1 ?_
      simp only [h1]
      exact ⟨hc.2, hK⟩
    · rename_i h1 h2
      unfold eAppR at h
      split at h <;> cases h
      rename_i hg
      refine eElems_ok h2 hc.1 ?_
      simp only [h1, hg]
      exact ⟨hc.2, hK⟩
    · cases h
  | call f as0 => cases h
  | isnil x neg =>
    simp only [evO] at h
    generalize hp : ungE g (val σ x) = p at h
    unfold eNil at h
    split at h
    · cases h; exact ungE_ok (by rw [hp]; exact hc) (by rw [hp]; exact hK)
    · cases h; exact ungE_ok (by rw [hp]; exact hc.1) (by rw [hp]; exact ⟨hc.2, hK⟩)
    · unfold eNilR at h
      split at h <;> cases h
      · rename_i hg; exact ungE_ok (by rw [hp]; exact hc.1) (by rw [hp]; simp only [hg]; exact ⟨hc.2, hK⟩)
      · rename_i hg; exact ungE_ok (by rw [hp]; exact hc.1) (by rw [hp]; simp only [hg]; exact ⟨hc.2, hK⟩)
    · cases h
def grd3 (b : Bool) : R3 → R3
  | some (c, v, []) => some (c, flat b v, [])
  | none => some (b = false, .grd b (.c .undef), [])
  | _ => none
def evG (P : Program) (σ : Slots) (H : LH) (u : Nat) (io : Ins) (want : Bool) : AV → R3
  | .c (.bool b) => grd3 (b == want) (evO ((b == want) = true) σ H u io)
  | .grd b' (.c (.bool b)) => grd3 (b' && (b == want)) (evO ((b' && (b == want)) = true) σ H u io)
  | _ => none
def evS (P : Program) (σ : Slots) (H : LH) : IOp → R3
  | ⟨_, u, none, io⟩ => evO True σ H u io
  | ⟨_, u, some (t, want), io⟩ => evG P σ H u io want (Slots.get σ t)
theorem grd3_ok {b : Bool} {o : R3} (h : grd3 b o = some (c, av, ws)) : ws = [] ∧ ((∃ v, o = some (c, v, []) ∧ av = flat b v) ∨ (c = (b = false) ∧ av = flat b (.c .undef))) := by
  unfold grd3 at h
  split at h
  · cases h; exact ⟨rfl, .inl ⟨_, rfl, rfl⟩⟩
  · cases h; exact ⟨rfl, .inr ⟨rfl, rfl⟩⟩
  · cases h
theorem evS_ok {i : IOp} (h : evS P σ H i = some (c, av, ws)) (hc : c) (hK : K av ws) : stepW P σ H i K := by
  obtain ⟨d, u, gd, io⟩ := i
  cases gd with
  | none => exact evO_ok h hc hK
  | some tw =>
    obtain ⟨t, want⟩ := tw
    simp only [evS] at h
    simp only [stepW]
    unfold evG at h
    split at h
    · rename_i h1
      simp only [h1]
      obtain ⟨rfl, ⟨v, he, rfl⟩ | ⟨rfl, rfl⟩⟩ := grd3_ok h
      · exact .inl (evO_ok he hc ⟨rfl, hK⟩)
      · exact .inr ⟨hc, _, hK⟩
    · rename_i h1
      simp only [h1]
      obtain ⟨rfl, ⟨v, he, rfl⟩ | ⟨rfl, rfl⟩⟩ := grd3_ok h
      · exact .inl (evO_ok he hc ⟨rfl, hK⟩)
      · exact .inr ⟨hc, _, hK⟩
    · cases h
universe uu
structure Bar {α : Sort uu} (x : α) : Type where
def go3 (K : AV → List (Nat × LObj) → Prop) (b : Bar K) : R3 → Prop
  | some (c, v, ws) => c ∧ K v ws
  | none => False
theorem go3_some {b : Bar K} : go3 K b (some (c, av, ws)) = (c ∧ K av ws) := (rfl)
end
abbrev RA := Option (Prop × List Arg × List (Nat × Option Nat) × List Nat × LH)
abbrev RC := Option (Prop × List OC × List (Nat × Option Nat) × LH)
def cPre (d : Prop) (x : OC) (m : List (Nat × Option Nat)) : RC → RC
  | some (c, l, m', H) => some (d ∧ c, x :: l, m ++ m', H)
  | none => none
def cRow (base k off len i : Nat) (H : LH) (rest : LH → RC) : Option LObj → RC
  | some (.row e xs) => cPre (off = 0 ∧ len = xs.length) (.own e xs) [(base + 1 + k, some i)] (rest (LH.set H i .dead))
  | _ => none
def cellsE (base : Nat) : List (Option Nat) → List AV → LH → Nat → RC
  | [], [], H, _ => some (True, [], [], H)
  | none :: ms, .c x :: cs, H, k => cPre True (.cv x) [] (cellsE base ms cs H (k + 1))
  | some e :: ms, .c .nilsl :: cs, H, k => cPre True (.own e []) [(base + 1 + k, none)] (cellsE base ms cs H (k + 1))
  | some e :: ms, .osl i off len :: cs, H, k => cRow base k off len i H (fun H => cellsE base ms cs H (k + 1)) (LH.get H i)
  | _, _, _, _ => none
def aPlain (H : LH) : Prop × AV → RA
  | (c, .c x) => some (c, [.cv x], [], [], H)
  | _ => none
def aViewR (H : LH) (c : Prop) (i off len : Nat) : Option LObj → RA
  | some (.row e xs) => some (c, [.cv (.sl e ((xs.drop off).take len))], [], [i], H)
  | some (.vrow e xs) => some (c, [.cv (.sl e ((xs.drop off).take len))], [], [], H)
  | _ => none
def aView (H : LH) (esz : Nat) : Prop × AV → RA
  | (c, .c .nilsl) => some (c, [.cv (.sl esz [])], [], [], H)
  | (c, .c (.sl s xs)) => some (c, [.cv (.sl s xs)], [], [], H)
  | (c, .osl i off len) => aViewR H c i off len (LH.get H i)
  | _ => none
def aMoveR (H : LH) (id i off len : Nat) : Option LObj → RA
  | some (.row e xs) => some (off = 0 ∧ len = xs.length, [.own e xs], [(id, some i)], [], LH.set H i .dead)
  | _ => none
def aMove (H : LH) (id esz : Nat) : AV → RA
  | .c .nilsl => some (True, [.own esz []], [(id, none)], [], H)
  | .osl i off len => aMoveR H id i off len (LH.get H i)
  | _ => none
def aMutrR (H : LH) (id i off len : Nat) : Option LObj → RA
  | some (.row e xs) => some (off = 0 ∧ len = xs.length, [.mutr e xs], [(id, some i)], [], LH.set H i .dead)
  | _ => none
def aMutr (H : LH) (id : Nat) : AV → RA
  | .osl i off len => aMutrR H id i off len (LH.get H i)
  | _ => none
def aPtrC (d : Prop) (id i : Nat) : RC → RA
  | some (c, ocs, m, H) => some (d ∧ c, [.obj ocs], (id, some i) :: m, [], H)
  | none => none
def aPtrR (H : LH) (id i off : Nat) (ms : List (Option Nat)) : Option LObj → RA
  | some (.obj cs) => aPtrC (off = 0 ∧ cs.length ≤ 15) id i (cellsE id ms cs (LH.set H i .dead) 0)
  | _ => none
def aPtr (H : LH) (id : Nat) (ms : List (Option Nat)) : AV → RA
  | .ref i off => aPtrR H id i off ms (LH.get H i)
  | _ => none
def argE (g : Prop) (H : LH) (id : Nat) (v : AV) : Mode → RA
  | .plain => aPlain H (ungE g v)
  | .view esz => aView H esz (ungE g v)
  | .move esz => aMove H id esz v
  | .mutr => aMutr H id v
  | .ptr ms => aPtr H id ms v
def aJoin (c : Prop) (as0 : List Arg) (m : List (Nat × Option Nat)) (V : List Nat) : RA → RA
  | some (c', as', m', V', H) => some (c ∧ c', as0 ++ as', m ++ m', V ++ V', H)
  | none => none
def aThen (rest : LH → RA) : RA → RA
  | some (c, as0, m, V, H) => aJoin c as0 m V (rest H)
  | none => none
def argsE (g : Prop) (base : Nat) : List (AV × Mode) → LH → Nat → RA
  | [], H, _ => some (True, [], [], [], H)
  | (v, md) :: l, H, j => aThen (fun H => argsE g base l H (j + 1)) (argE g H (base + 64 * j) v md)
section
variable {P : Program} {g : Prop}
theorem cellsE_ok {base : Nat} : ∀ {ms : List (Option Nat)} {cs : List AV} {H : LH} {k : Nat} {c : Prop} {l : List OC} {m : List (Nat × Option Nat)} {H' : LH} {F : List OC → List (Nat × Option Nat) → LH → Prop},
    cellsE base ms cs H k = some (c, l, m, H') → c → F l m H' → cellsW base H ms cs k F
  | [], [], H, k, c, l, m, H', F, h, hc, hF => by cases h; exact hF
  | none :: ms, .c x :: cs, H, k, c, l, m, H', F, h, hc, hF => by
    simp only [cellsE] at h
    generalize he : cellsE base ms cs H (k + 1) = o at h
    unfold cPre at h
    split at h <;> cases h
    exact cellsE_ok (ms := ms) (cs := cs) (F := fun l m H' => F (.cv x :: l) m H') he hc.2 hF
  | some e :: ms, .c .nilsl :: cs, H, k, c, l, m, H', F, h, hc, hF => by
    simp only [cellsE] at h
    generalize he : cellsE base ms cs H (k + 1) = o at h
    unfold cPre at h
    split at h <;> cases h
    exact cellsE_ok (ms := ms) (cs := cs) (F := fun l m H' => F (.own e [] :: l) ((base + 1 + k, none) :: m) H') he hc.2 hF
  | some e :: ms, .osl i off len :: cs, H, k, c, l, m, H', F, h, hc, hF => by
    simp only [cellsE] at h
    unfold cRow at h
    split at h
    · rename_i e' xs hg
      dsimp only at h
      generalize he : cellsE base ms cs (LH.set H i .dead) (k + 1) = o at h
      unfold cPre at h
      split at h <;> cases h
      simp only [cellsW, hg]
      exact ⟨hc.1, cellsE_ok (ms := ms) (cs := cs) (F := fun l m H' => F (.own e' xs :: l) ((base + 1 + k, some i) :: m) H') he hc.2 hF⟩
    · cases h
  | [], _ :: _, H, k, c, l, m, H', F, h, hc, hF => by simp [cellsE] at h
  | none :: _, [], H, k, c, l, m, H', F, h, hc, hF => by simp [cellsE] at h
  | some _ :: _, [], H, k, c, l, m, H', F, h, hc, hF => by simp [cellsE] at h
  | none :: _, .ref _ _ :: _, H, k, c, l, m, H', F, h, hc, hF => by simp [cellsE] at h
  | none :: _, .osl _ _ _ :: _, H, k, c, l, m, H', F, h, hc, hF => by simp [cellsE] at h
  | none :: _, .eptr _ _ _ :: _, H, k, c, l, m, H', F, h, hc, hF => by simp [cellsE] at h
  | none :: _, .vptr _ :: _, H, k, c, l, m, H', F, h, hc, hF => by simp [cellsE] at h
  | none :: _, .tup _ :: _, H, k, c, l, m, H', F, h, hc, hF => by simp [cellsE] at h
  | none :: _, .grd _ _ :: _, H, k, c, l, m, H', F, h, hc, hF => by simp [cellsE] at h
  | some _ :: _, .ref _ _ :: _, H, k, c, l, m, H', F, h, hc, hF => by simp [cellsE] at h
  | some _ :: _, .eptr _ _ _ :: _, H, k, c, l, m, H', F, h, hc, hF => by simp [cellsE] at h
  | some _ :: _, .vptr _ :: _, H, k, c, l, m, H', F, h, hc, hF => by simp [cellsE] at h
  | some _ :: _, .tup _ :: _, H, k, c, l, m, H', F, h, hc, hF => by simp [cellsE] at h
  | some _ :: _, .grd _ _ :: _, H, k, c, l, m, H', F, h, hc, hF => by simp [cellsE] at h
  | some _ :: _, .c (.bool _) :: _, H, k, c, l, m, H', F, h, hc, hF => by simp [cellsE] at h
  | some _ :: _, .c (.int _ _) :: _, H, k, c, l, m, H', F, h, hc, hF => by simp [cellsE] at h
  | some _ :: _, .c (.flt _) :: _, H, k, c, l, m, H', F, h, hc, hF => by simp [cellsE] at h
  | some _ :: _, .c (.str _) :: _, H, k, c, l, m, H', F, h, hc, hF => by simp [cellsE] at h
  | some _ :: _, .c (.sl _ _) :: _, H, k, c, l, m, H', F, h, hc, hF => by simp [cellsE] at h
  | some _ :: _, .c (.agg _) :: _, H, k, c, l, m, H', F, h, hc, hF => by simp [cellsE] at h
  | some _ :: _, .c (.fn _) :: _, H, k, c, l, m, H', F, h, hc, hF => by simp [cellsE] at h
  | some _ :: _, .c .nilfn :: _, H, k, c, l, m, H', F, h, hc, hF => by simp [cellsE] at h
  | some _ :: _, .c .undef :: _, H, k, c, l, m, H', F, h, hc, hF => by simp [cellsE] at h
theorem argE_ok {H : LH} {id : Nat} {v : AV} {md : Mode} {c : Prop} {as0 : List Arg} {m : List (Nat × Option Nat)} {V : List Nat} {H' : LH} {F : Arg → List (Nat × Option Nat) → List Nat → LH → Prop}
    (h : argE g H id v md = some (c, as0, m, V, H')) (hc : c) (hF : ∀ a, as0 = [a] → F a m V H') : argW g H id v md F := by
  cases md with
  | plain =>
    simp only [argE] at h
    generalize hp : ungE g v = p at h
    unfold aPlain at h
    split at h <;> cases h
    exact ungE_ok (by rw [hp]; exact hc) (by rw [hp]; exact hF _ rfl)
  | view e =>
    simp only [argE] at h
    generalize hp : ungE g v = p at h
    unfold aView at h
    split at h
    · cases h; exact ungE_ok (by rw [hp]; exact hc) (by rw [hp]; exact hF _ rfl)
    · cases h; exact ungE_ok (by rw [hp]; exact hc) (by rw [hp]; exact hF _ rfl)
    · unfold aViewR at h
      split at h <;> cases h
      · rename_i hg; exact ungE_ok (by rw [hp]; exact hc) (by rw [hp]; simp only [hg]; exact hF _ rfl)
      · rename_i hg; exact ungE_ok (by rw [hp]; exact hc) (by rw [hp]; simp only [hg]; exact hF _ rfl)
    · cases h
  | move e =>
    simp only [argE] at h
    simp only [argW]
    unfold aMove at h
    split at h
    · cases h; exact hF _ rfl
    · unfold aMoveR at h
      split at h <;> cases h
      rename_i hg; simp only [hg]; exact ⟨hc, hF _ rfl⟩
    · cases h
  | mutr =>
    simp only [argE] at h
    simp only [argW]
    unfold aMutr at h
    split at h
    · unfold aMutrR at h
      split at h <;> cases h
      rename_i hg; simp only [hg]; exact ⟨hc, hF _ rfl⟩
    · cases h
  | ptr ms =>
    simp only [argE] at h
    simp only [argW]
    unfold aPtr at h
    split at h
    · unfold aPtrR at h
      split at h
      · rename_i cs hg
        generalize he : cellsE id ms cs _ 0 = o at h
        unfold aPtrC at h
        split at h <;> cases h
        simp only [hg]
        exact ⟨hc.1, cellsE_ok he hc.2 (hF _ rfl)⟩
      · cases h
    · cases h
theorem argE_one {H : LH} {id : Nat} {v : AV} {md : Mode} {c : Prop} {as0 : List Arg} {m : List (Nat × Option Nat)} {V : List Nat} {H' : LH}
    (h : argE g H id v md = some (c, as0, m, V, H')) : ∃ a, as0 = [a] := by
  cases md <;> simp only [argE] at h
  · unfold aPlain at h; split at h <;> cases h; exact ⟨_, rfl⟩
  · unfold aView at h
    split at h
    · cases h; exact ⟨_, rfl⟩
    · cases h; exact ⟨_, rfl⟩
    · unfold aViewR at h; split at h <;> cases h <;> exact ⟨_, rfl⟩
    · cases h
  · unfold aMove at h
    split at h
    · cases h; exact ⟨_, rfl⟩
    · unfold aMoveR at h; split at h <;> cases h; exact ⟨_, rfl⟩
    · cases h
  · unfold aMutr at h
    split at h
    · unfold aMutrR at h; split at h <;> cases h; exact ⟨_, rfl⟩
    · cases h
  · unfold aPtr at h
    split at h
    · unfold aPtrR at h
      split at h
      · unfold aPtrC at h; split at h <;> cases h; exact ⟨_, rfl⟩
      · cases h
    · cases h
theorem argsE_ok {base : Nat} : ∀ {l : List (AV × Mode)} {H : LH} {j : Nat} {c : Prop} {as0 : List Arg} {m : List (Nat × Option Nat)} {V : List Nat} {H' : LH} {F : List Arg → List (Nat × Option Nat) → List Nat → LH → Prop},
    argsE g base l H j = some (c, as0, m, V, H') → c → F as0 m V H' → argsW g base H l j F
  | [], H, j, c, as0, m, V, H', F, h, hc, hF => by cases h; exact hF
  | (v, md) :: l, H, j, c, as0, m, V, H', F, h, hc, hF => by
    simp only [argsE] at h
    generalize he : argE g H (base + 64 * j) v md = o at h
    unfold aThen at h
    split at h
    · rename_i c1 as1 m1 V1 H1
      dsimp only at h
      generalize he2 : argsE g base l H1 (j + 1) = o2 at h
      cases o2 with
      | none => cases h
      | some x =>
      obtain ⟨c2, as2, m2, V2, H2⟩ := x
      cases h
      obtain ⟨a, rfl⟩ := argE_one he
      exact argE_ok he hc.1 fun a' ha => by cases ha; exact argsE_ok (l := l) (F := fun as' m' V' H'' => F (a :: as') (m1 ++ m') (V1 ++ V') H'') he2 hc.2 hF
    · cases h
end
abbrev RK := Option (Prop × AV × List (Nat × Option Nat) × LH × LH)
abbrev RL := Option (Prop × List AV × List (Nat × Option Nat) × LH × LH)
abbrev RO := Option (Prop × List (Nat × Option Nat) × LH × LH)
abbrev RS := Option (Prop × Slots × List (Nat × Option Nat) × LH × LH)
def kin (i : Nat) : List (Nat × List KM) → Prop
  | [] => False
  | (k, _) :: l => k = i ∨ kin i l
def kPlain (obs : List (Nat × List KM)) (H : LH) : AV → RK
  | .c x => some (True, .c x, [], [], H)
  | .ref i off => some (kin i obs, .ref i off, [], [], H)
  | _ => none
def kOwnR (H : LH) (esz id i off len : Nat) : Option LObj → RK
  | some (.row e xs) => some ((960000 ≤ id ∧ id < argBase ∨ id = i) ∧ off = 0 ∧ len = xs.length ∧ e = esz, .osl id 0 xs.length, [(id, some i)], [(id, .row esz xs)], LH.set H i .dead)
  | _ => none
def kOwn (H : LH) (esz id : Nat) : AV → RK
  | .c .nilsl => some (960000 ≤ id ∧ id < argBase, .osl id 0 0, [(id, none)], [(id, .row esz [])], H)
  | .osl i off len => kOwnR H esz id i off len (LH.get H i)
  | _ => none
def keepE (obs : List (Nat × List KM)) (H : LH) (v : AV) : KM → RK
  | .plain => kPlain obs H v
  | .own esz id => kOwn H esz id v
def klPre (c : Prop) (v : AV) (m : List (Nat × Option Nat)) (n : LH) : RL → RL
  | some (c', l, m', n', H) => some (c ∧ c', v :: l, m ++ m', n ++ n', H)
  | none => none
def klThen (rest : LH → RL) : RK → RL
  | some (c, v, m, n, H) => klPre c v m n (rest H)
  | none => none
def keepCellsE : List KM → List AV → LH → RL
  | [], [], H => some (True, [], [], [], H)
  | md :: ms, v :: cs, H => klThen (fun H => keepCellsE ms cs H) (keepE [] H v md)
  | _, _, _ => none
def koPre (i : Nat) (c : Prop) (cs : List AV) (m : List (Nat × Option Nat)) (n : LH) : RO → RO
  | some (c', m', n', H) => some (c ∧ c', (i, some i) :: m ++ m', (i, .obj cs) :: n ++ n', H)
  | none => none
def koThen (i : Nat) (rest : LH → RO) : RL → RO
  | some (c, cs, m, n, H) => koPre i c cs m n (rest H)
  | none => none
def koR (i : Nat) (ms : List KM) (H : LH) (rest : LH → RO) : Option LObj → RO
  | some (.obj cs) => koThen i rest (keepCellsE ms cs (LH.set H i .dead))
  | _ => none
def keepObjsE : List (Nat × List KM) → LH → RO
  | [], H => some (True, [], [], H)
  | (i, ms) :: l, H => koR i ms H (fun H => keepObjsE l H) (LH.get H i)
def ksPre (t : Nat) (c : Prop) (v : AV) (m : List (Nat × Option Nat)) (n : LH) : RS → RS
  | some (c', σ, m', n', H) => some (c ∧ c', (t, v) :: σ, m ++ m', n ++ n', H)
  | none => none
def ksThen (t : Nat) (rest : LH → RS) : RK → RS
  | some (c, v, m, n, H) => ksPre t c v m n (rest H)
  | none => none
def keepSlotsE (obs : List (Nat × List KM)) (σ : Slots) : List (Nat × KM) → LH → RS
  | [], H => some (True, [], [], [], H)
  | (t, md) :: l, H => ksThen t (fun H => keepSlotsE obs σ l H) (keepE obs H (Slots.get σ t) md)
def nFin (c : Prop) (σ' : Slots) (m : List (Nat × Option Nat)) (n : LH) : RO → Option (Prop × Slots × LH)
  | some (c', m', n', _) => some (c ∧ c' ∧ ((m ++ m').map (·.1)).Nodup ∧ ((n ++ n').map (·.1)).Nodup, σ', n ++ n')
  | none => none
def nThen (obs : List (Nat × List KM)) : RS → Option (Prop × Slots × LH)
  | some (c, σ', m, n, H) => nFin c σ' m n (keepObjsE obs H)
  | none => none
def normE (σ : Slots) (H : LH) : Norm → Option (Prop × Slots × LH)
  | ⟨sl, ob⟩ => nThen ob (keepSlotsE ob σ sl H)
theorem kin_ok {i : Nat} : ∀ {obs : List (Nat × List KM)}, kin i obs → ∃ ms, (i, ms) ∈ obs
  | [], h => h.elim
  | (k, ms) :: l, h => by
    rcases h with rfl | h
    · exact ⟨ms, List.mem_cons_self⟩
    · obtain ⟨m, hm⟩ := kin_ok h; exact ⟨m, List.mem_cons_of_mem _ hm⟩
theorem keepE_ok {obs : List (Nat × List KM)} {H : LH} {v : AV} {md : KM} {c : Prop} {v' : AV} {m : List (Nat × Option Nat)} {n H' : LH} {F : AV → List (Nat × Option Nat) → LH → LH → Prop}
    (h : keepE obs H v md = some (c, v', m, n, H')) (hc : c) (hF : F v' m n H') : keepW obs H v md F := by
  cases md with
  | plain =>
    simp only [keepE] at h
    unfold kPlain at h
    split at h
    · cases h; exact hF
    · cases h; exact ⟨kin_ok hc, hF⟩
    · cases h
  | own esz id =>
    simp only [keepE] at h
    simp only [keepW]
    unfold kOwn at h
    split at h
    · cases h; exact ⟨hc, hF⟩
    · unfold kOwnR at h
      split at h <;> cases h
      rename_i hg; simp only [hg]; exact ⟨hc, hF⟩
    · cases h
theorem keepCellsE_ok : ∀ {ms : List KM} {cs : List AV} {H : LH} {c : Prop} {l : List AV} {m : List (Nat × Option Nat)} {n H' : LH} {F : List AV → List (Nat × Option Nat) → LH → LH → Prop},
    keepCellsE ms cs H = some (c, l, m, n, H') → c → F l m n H' → keepCellsW H ms cs F
  | [], [], H, c, l, m, n, H', F, h, hc, hF => by cases h; exact hF
  | md :: ms, v :: cs, H, c, l, m, n, H', F, h, hc, hF => by
    simp only [keepCellsE] at h
    unfold klThen at h
    split at h
    · rename_i c1 v1 m1 n1 H1 he
      dsimp only at h
      generalize he2 : keepCellsE ms cs H1 = o2 at h
      cases o2 with
      | none => cases h
      | some x =>
      obtain ⟨c2, l2, m2, n2, H2⟩ := x
      cases h
      exact keepE_ok he hc.1 (keepCellsE_ok (F := fun l m' n' H'' => F (v1 :: l) (m1 ++ m') (n1 ++ n') H'') he2 hc.2 hF)
    · cases h
  | [], _ :: _, H, c, l, m, n, H', F, h, hc, hF => by simp [keepCellsE] at h
  | _ :: _, [], H, c, l, m, n, H', F, h, hc, hF => by simp [keepCellsE] at h
theorem keepObjsE_ok : ∀ {l : List (Nat × List KM)} {H : LH} {c : Prop} {m : List (Nat × Option Nat)} {n H' : LH} {F : List (Nat × Option Nat) → LH → LH → Prop},
    keepObjsE l H = some (c, m, n, H') → c → F m n H' → keepObjsW H l F
  | [], H, c, m, n, H', F, h, hc, hF => by cases h; exact hF
  | (i, ms) :: l, H, c, m, n, H', F, h, hc, hF => by
    simp only [keepObjsE] at h
    unfold koR at h
    split at h
    · rename_i cs hg
      unfold koThen at h
      split at h
      · rename_i c1 cs1 m1 n1 H1 he
        dsimp only at h
        generalize he2 : keepObjsE l H1 = o2 at h
        cases o2 with
        | none => cases h
        | some x =>
        obtain ⟨c2, m2, n2, H2⟩ := x
        cases h
        simp only [keepObjsW, hg]
        exact keepCellsE_ok he hc.1 (keepObjsE_ok (F := fun m' n' H'' => F ((i, some i) :: m1 ++ m') ((i, .obj cs1) :: n1 ++ n') H'') he2 hc.2 hF)
      · cases h
    · cases h
theorem keepSlotsE_ok {obs : List (Nat × List KM)} {σ : Slots} : ∀ {l : List (Nat × KM)} {H : LH} {c : Prop} {σ' : Slots} {m : List (Nat × Option Nat)} {n H' : LH} {F : Slots → List (Nat × Option Nat) → LH → LH → Prop},
    keepSlotsE obs σ l H = some (c, σ', m, n, H') → c → F σ' m n H' → keepSlotsW obs σ H l F
  | [], H, c, σ', m, n, H', F, h, hc, hF => by cases h; exact hF
  | (t, md) :: l, H, c, σ', m, n, H', F, h, hc, hF => by
    simp only [keepSlotsE] at h
    unfold ksThen at h
    split at h
    · rename_i c1 v1 m1 n1 H1 he
      dsimp only at h
      generalize he2 : keepSlotsE obs σ l H1 = o2 at h
      cases o2 with
      | none => cases h
      | some x =>
      obtain ⟨c2, l2, m2, n2, H2⟩ := x
      cases h
      exact keepE_ok he hc.1 (keepSlotsE_ok (F := fun σ' m' n' H'' => F ((t, v1) :: σ') (m1 ++ m') (n1 ++ n') H'') he2 hc.2 hF)
    · cases h
theorem normE_ok {N : Norm} {σ : Slots} {H : LH} {c : Prop} {σ' : Slots} {H' : LH} {Y : Slots → LH → Prop} (h : normE σ H N = some (c, σ', H')) (hc : c) (hY : Y σ' H') : normW N σ H Y := by
  obtain ⟨sl, ob⟩ := N
  simp only [normE] at h
  unfold nThen at h
  split at h
  · rename_i c1 σ1 m1 n1 H1 he
    generalize he2 : keepObjsE ob H1 = o2 at h
    cases o2 with
    | none => cases h
    | some x =>
    obtain ⟨c2, m2, n2, H2⟩ := x
    cases h
    exact keepSlotsE_ok he hc.1 (keepObjsE_ok he2 hc.2.1 ⟨hc.2.2, hY⟩)
  · cases h
def goN (Y : Slots → LH → Prop) (b : Bar Y) : Option (Prop × Slots × LH) → Prop
  | some (c, σ, H) => c ∧ Y σ H
  | none => False
theorem goN_some {Y : Slots → LH → Prop} {b : Bar Y} {c : Prop} {σ : Slots} {H : LH} : goN Y b (some (c, σ, H)) = (c ∧ Y σ H) := (rfl)
theorem goN_ok {N : Norm} {σ : Slots} {H : LH} {Y Y' : Slots → LH → Prop} {b : Bar Y} (h : goN Y b (normE σ H N)) (f : ∀ σ H, Y σ H → Y' σ H) : normW N σ H Y' := by
  generalize he : normE σ H N = o at h
  cases o with
  | none => exact h.elim
  | some x => obtain ⟨c, σ', H'⟩ := x; exact normE_ok he h.1 (f _ _ h.2)
def callK (P : Program) (g : Prop) (f : FuncId) (H : List (Nat × LObj)) (u : Nat) (K : AV → List (Nat × LObj) → Prop) (b : Bar K) (args : List Arg) (m : List (Nat × Option Nat)) (V : List Nat) (H' : List (Nat × LObj)) : Prop :=
    ∃ out : Out, (g → CW P f args out) ∧ (∀ i ∈ V, isLive H' i) ∧ (V = [] ∨ (∀ r ∈ out.res, r.scalar) ∧ ∀ b ∈ out.back, ∀ r ∈ b, r.scalar) ∧
      (freshC H u ∧ args.length ≤ 8 ∧ out.res.length ≤ 60 ∧ ∀ b ∈ out.back, b.length ≤ 15) ∧
      K (impRes u out.res) (backW u m (backArgs args out.back) 0 ++ impOb u out.res 0 ++ deadOf m)
def goA (P : Program) (g : Prop) (f : FuncId) (H : List (Nat × LObj)) (u : Nat) (K : AV → List (Nat × LObj) → Prop) (b : Bar K) : RA → Prop
  | some (c, args, m, V, H') => c ∧ callK P g f H u K b args m V H'
  | none => False
theorem goA_some {P : Program} {g : Prop} {f : FuncId} {H : List (Nat × LObj)} {u : Nat} {K : AV → List (Nat × LObj) → Prop} {b : Bar K} {c : Prop} {args : List Arg} {m : List (Nat × Option Nat)} {V : List Nat} {H' : LH} :
    goA P g f H u K b (some (c, args, m, V, H')) = (c ∧ callK P g f H u K b args m V H') := (rfl)
def rnF (P : Program) (g : Prop) (σ : Slots) (H : LH) (u : Nat) (as0 : List (Opd × Mode)) (K : AV → List (Nat × LObj) → Prop) (b : Bar K) : AV → Prop
  | .c (.fn f) => goA P g f H u K b (argsE g argBase (as0.map fun x => (val σ x.1, x.2)) H 0)
  | _ => False
theorem rnF_fn {P : Program} {g : Prop} {σ : Slots} {H : LH} {u : Nat} {as0 : List (Opd × Mode)} {K : AV → List (Nat × LObj) → Prop} {b : Bar K} {f : FuncId} :
    rnF P g σ H u as0 K b (.c (.fn f)) = goA P g f H u K b (argsE g argBase (as0.map fun x => (val σ x.1, x.2)) H 0) := (rfl)
def rnG (P : Program) (σ : Slots) (H : LH) (u : Nat) (f : Opd) (as0 : List (Opd × Mode)) (w : Bool) (K : AV → List (Nat × LObj) → Prop) (b : Bar K) : AV → Prop
  | .c (.bool t) => rnF P ((t == w) = true) σ H u as0 (fun v ws => ws = [] ∧ K (flat (t == w) v) []) ⟨⟩ (val σ f)
  | .grd t' (.c (.bool t)) => rnF P ((t' && (t == w)) = true) σ H u as0 (fun v ws => ws = [] ∧ K (flat (t' && (t == w)) v) []) ⟨⟩ (val σ f)
  | _ => False
theorem rnG_c {P : Program} {σ : Slots} {H : LH} {u : Nat} {f : Opd} {as0 : List (Opd × Mode)} {w t : Bool} {K : AV → List (Nat × LObj) → Prop} {b : Bar K} :
    rnG P σ H u f as0 w K b (.c (.bool t)) = rnF P ((t == w) = true) σ H u as0 (fun v ws => ws = [] ∧ K (flat (t == w) v) []) ⟨⟩ (val σ f) := (rfl)
theorem rnG_g {P : Program} {σ : Slots} {H : LH} {u : Nat} {f : Opd} {as0 : List (Opd × Mode)} {w t t' : Bool} {K : AV → List (Nat × LObj) → Prop} {b : Bar K} :
    rnG P σ H u f as0 w K b (.grd t' (.c (.bool t))) = rnF P ((t' && (t == w)) = true) σ H u as0 (fun v ws => ws = [] ∧ K (flat (t' && (t == w)) v) []) ⟨⟩ (val σ f) := (rfl)
def rnS (P : Program) (σ : Slots) (H : LH) (K : AV → List (Nat × LObj) → Prop) (b : Bar K) : IOp → Prop
  | ⟨_, u, none, .call f as0⟩ => rnF P True σ H u as0 K b (val σ f)
  | ⟨_, u, some (t, w), .call f as0⟩ => rnG P σ H u f as0 w K b (Slots.get σ t)
  | i => go3 K b (evS P σ H i)
section
variable {P : Program} {σ : Slots} {H : LH} {K : AV → List (Nat × LObj) → Prop} {b : Bar K} {g : Prop} {u : Nat}
theorem rnS_call {d : Option Nat} {f : Opd} {as0 : List (Opd × Mode)} : rnS P σ H K b ⟨d, u, none, .call f as0⟩ = rnF P True σ H u as0 K b (val σ f) := (rfl)
theorem rnS_callg {d : Option Nat} {f : Opd} {as0 : List (Opd × Mode)} {t : Nat} {w : Bool} : rnS P σ H K b ⟨d, u, some (t, w), .call f as0⟩ = rnG P σ H u f as0 w K b (Slots.get σ t) := (rfl)
theorem rnS_mv {d : Option Nat} {gd : Option (Nat × Bool)} {x0 : Opd} : rnS P σ H K b ⟨d, u, gd, .mv x0⟩ = go3 K b (evS P σ H ⟨d, u, gd, .mv x0⟩) := by cases gd <;> rfl
theorem rnS_pick {d : Option Nat} {gd : Option (Nat × Bool)} {x0 : Opd} {x1 : Opd} {x2 : Opd} : rnS P σ H K b ⟨d, u, gd, .pick x0 x1 x2⟩ = go3 K b (evS P σ H ⟨d, u, gd, .pick x0 x1 x2⟩) := by cases gd <;> rfl
theorem rnS_bin {d : Option Nat} {gd : Option (Nat × Bool)} {x0 : BinOp} {x1 : Opd} {x2 : Opd} : rnS P σ H K b ⟨d, u, gd, .bin x0 x1 x2⟩ = go3 K b (evS P σ H ⟨d, u, gd, .bin x0 x1 x2⟩) := by cases gd <;> rfl
theorem rnS_beq {d : Option Nat} {gd : Option (Nat × Bool)} {x0 : Opd} {x1 : Opd} : rnS P σ H K b ⟨d, u, gd, .beq x0 x1⟩ = go3 K b (evS P σ H ⟨d, u, gd, .beq x0 x1⟩) := by cases gd <;> rfl
theorem rnS_bne {d : Option Nat} {gd : Option (Nat × Bool)} {x0 : Opd} {x1 : Opd} : rnS P σ H K b ⟨d, u, gd, .bne x0 x1⟩ = go3 K b (evS P σ H ⟨d, u, gd, .bne x0 x1⟩) := by cases gd <;> rfl
theorem rnS_mks {d : Option Nat} {gd : Option (Nat × Bool)} {x0 : Nat} {x1 : CV} : rnS P σ H K b ⟨d, u, gd, .mks x0 x1⟩ = go3 K b (evS P σ H ⟨d, u, gd, .mks x0 x1⟩) := by cases gd <;> rfl
theorem rnS_not {d : Option Nat} {gd : Option (Nat × Bool)} {x0 : Opd} : rnS P σ H K b ⟨d, u, gd, .not x0⟩ = go3 K b (evS P σ H ⟨d, u, gd, .not x0⟩) := by cases gd <;> rfl
theorem rnS_cpl {d : Option Nat} {gd : Option (Nat × Bool)} {x0 : Opd} : rnS P σ H K b ⟨d, u, gd, .cpl x0⟩ = go3 K b (evS P σ H ⟨d, u, gd, .cpl x0⟩) := by cases gd <;> rfl
theorem rnS_conv {d : Option Nat} {gd : Option (Nat × Bool)} {x0 : IntKind} {x1 : Opd} : rnS P σ H K b ⟨d, u, gd, .conv x0 x1⟩ = go3 K b (evS P σ H ⟨d, u, gd, .conv x0 x1⟩) := by cases gd <;> rfl
theorem rnS_b2s {d : Option Nat} {gd : Option (Nat × Bool)} {x0 : Opd} : rnS P σ H K b ⟨d, u, gd, .b2s x0⟩ = go3 K b (evS P σ H ⟨d, u, gd, .b2s x0⟩) := by cases gd <;> rfl
theorem rnS_s2b {d : Option Nat} {gd : Option (Nat × Bool)} {x0 : Opd} : rnS P σ H K b ⟨d, u, gd, .s2b x0⟩ = go3 K b (evS P σ H ⟨d, u, gd, .s2b x0⟩) := by cases gd <;> rfl
theorem rnS_len {d : Option Nat} {gd : Option (Nat × Bool)} {x0 : Bool} {x1 : Opd} : rnS P σ H K b ⟨d, u, gd, .len x0 x1⟩ = go3 K b (evS P σ H ⟨d, u, gd, .len x0 x1⟩) := by cases gd <;> rfl
theorem rnS_mn {d : Option Nat} {gd : Option (Nat × Bool)} {x0 : Opd} {x1 : Opd} : rnS P σ H K b ⟨d, u, gd, .mn x0 x1⟩ = go3 K b (evS P σ H ⟨d, u, gd, .mn x0 x1⟩) := by cases gd <;> rfl
theorem rnS_mx {d : Option Nat} {gd : Option (Nat × Bool)} {x0 : Opd} {x1 : Opd} : rnS P σ H K b ⟨d, u, gd, .mx x0 x1⟩ = go3 K b (evS P σ H ⟨d, u, gd, .mx x0 x1⟩) := by cases gd <;> rfl
theorem rnS_ext {d : Option Nat} {gd : Option (Nat × Bool)} {x0 : Opd} {x1 : Nat} : rnS P σ H K b ⟨d, u, gd, .ext x0 x1⟩ = go3 K b (evS P σ H ⟨d, u, gd, .ext x0 x1⟩) := by cases gd <;> rfl
theorem rnS_sidx {d : Option Nat} {gd : Option (Nat × Bool)} {x0 : Opd} {x1 : Opd} : rnS P σ H K b ⟨d, u, gd, .sidx x0 x1⟩ = go3 K b (evS P σ H ⟨d, u, gd, .sidx x0 x1⟩) := by cases gd <;> rfl
theorem rnS_aidx {d : Option Nat} {gd : Option (Nat × Bool)} {x0 : Nat} {x1 : Opd} {x2 : Opd} : rnS P σ H K b ⟨d, u, gd, .aidx x0 x1 x2⟩ = go3 K b (evS P σ H ⟨d, u, gd, .aidx x0 x1 x2⟩) := by cases gd <;> rfl
theorem rnS_fa {d : Option Nat} {gd : Option (Nat × Bool)} {x0 : Opd} {x1 : Nat} : rnS P σ H K b ⟨d, u, gd, .fa x0 x1⟩ = go3 K b (evS P σ H ⟨d, u, gd, .fa x0 x1⟩) := by cases gd <;> rfl
theorem rnS_ia {d : Option Nat} {gd : Option (Nat × Bool)} {x0 : Opd} {x1 : Opd} {x2 : Nat} : rnS P σ H K b ⟨d, u, gd, .ia x0 x1 x2⟩ = go3 K b (evS P σ H ⟨d, u, gd, .ia x0 x1 x2⟩) := by cases gd <;> rfl
theorem rnS_ld {d : Option Nat} {gd : Option (Nat × Bool)} {x0 : Opd} {x1 : Option Nat} : rnS P σ H K b ⟨d, u, gd, .ld x0 x1⟩ = go3 K b (evS P σ H ⟨d, u, gd, .ld x0 x1⟩) := by cases gd <;> rfl
theorem rnS_st {d : Option Nat} {gd : Option (Nat × Bool)} {x0 : Opd} {x1 : Opd} {x2 : Option Nat} : rnS P σ H K b ⟨d, u, gd, .st x0 x1 x2⟩ = go3 K b (evS P σ H ⟨d, u, gd, .st x0 x1 x2⟩) := by cases gd <;> rfl
theorem rnS_nck {d : Option Nat} {gd : Option (Nat × Bool)} {x0 : Opd} : rnS P σ H K b ⟨d, u, gd, .nck x0⟩ = go3 K b (evS P σ H ⟨d, u, gd, .nck x0⟩) := by cases gd <;> rfl
theorem rnS_alloc {d : Option Nat} {gd : Option (Nat × Bool)} {x0 : List CV} : rnS P σ H K b ⟨d, u, gd, .alloc x0⟩ = go3 K b (evS P σ H ⟨d, u, gd, .alloc x0⟩) := by cases gd <;> rfl
theorem rnS_box {d : Option Nat} {gd : Option (Nat × Bool)} {x0 : Opd} : rnS P σ H K b ⟨d, u, gd, .box x0⟩ = go3 K b (evS P σ H ⟨d, u, gd, .box x0⟩) := by cases gd <;> rfl
theorem rnS_bld {d : Option Nat} {gd : Option (Nat × Bool)} {x0 : List CV} {x1 : List (Nat × Opd)} : rnS P σ H K b ⟨d, u, gd, .bld x0 x1⟩ = go3 K b (evS P σ H ⟨d, u, gd, .bld x0 x1⟩) := by cases gd <;> rfl
theorem rnS_bsl {d : Option Nat} {gd : Option (Nat × Bool)} {x0 : Nat} {x1 : List Opd} : rnS P σ H K b ⟨d, u, gd, .bsl x0 x1⟩ = go3 K b (evS P σ H ⟨d, u, gd, .bsl x0 x1⟩) := by cases gd <;> rfl
theorem rnS_slc {d : Option Nat} {gd : Option (Nat × Bool)} {x0 : Opd} {x1 : Option Opd} {x2 : Option Opd} {x3 : Option Opd} {x4 : Nat} : rnS P σ H K b ⟨d, u, gd, .slc x0 x1 x2 x3 x4⟩ = go3 K b (evS P σ H ⟨d, u, gd, .slc x0 x1 x2 x3 x4⟩) := by cases gd <;> rfl
theorem rnS_ssl {d : Option Nat} {gd : Option (Nat × Bool)} {x0 : Opd} {x1 : Option Opd} {x2 : Option Opd} : rnS P σ H K b ⟨d, u, gd, .ssl x0 x1 x2⟩ = go3 K b (evS P σ H ⟨d, u, gd, .ssl x0 x1 x2⟩) := by cases gd <;> rfl
theorem rnS_app {d : Option Nat} {gd : Option (Nat × Bool)} {x0 : Opd} {x1 : Opd} {x2 : Nat} {x3 : Nat} {x4 : Bool} : rnS P σ H K b ⟨d, u, gd, .app x0 x1 x2 x3 x4⟩ = go3 K b (evS P σ H ⟨d, u, gd, .app x0 x1 x2 x3 x4⟩) := by cases gd <;> rfl
theorem rnS_isnil {d : Option Nat} {gd : Option (Nat × Bool)} {x0 : Opd} {x1 : Bool} : rnS P σ H K b ⟨d, u, gd, .isnil x0 x1⟩ = go3 K b (evS P σ H ⟨d, u, gd, .isnil x0 x1⟩) := by cases gd <;> rfl
theorem rnF_ok {as0 : List (Opd × Mode)} {f : Opd} {K' : AV → List (Nat × LObj) → Prop} (h : rnF P g σ H u as0 K b (val σ f)) (m : ∀ v ws, K v ws → K' v ws) : opW P g σ H u (.call f as0) K' := by
  simp only [opW]
  unfold rnF at h
  split at h
  · rename_i fn hf
    simp only [hf]
    generalize he : argsE g argBase (as0.map fun x => (val σ x.1, x.2)) H 0 = o at h
    cases o with
    | none => exact h.elim
    | some x =>
      obtain ⟨c, args, mm, V, H'⟩ := x
      obtain ⟨hc, out, h1, h2, h3, h4, h5⟩ := h
      exact argsE_ok he hc ⟨out, h1, h2, h3, h4, m _ _ h5⟩
  · exact h.elim
theorem rnS_ok {i : IOp} {K' : AV → List (Nat × LObj) → Prop} (h : rnS P σ H K b i) (m : ∀ v ws, K v ws → K' v ws) : stepW P σ H i K' := by
  unfold rnS at h
  split at h
  · exact rnF_ok h m
  · rename_i t w f as0
    simp only [stepW]
    unfold rnG at h
    split at h
    · rename_i h1
      simp only [h1]
      exact .inl (rnF_ok h fun v ws hk => ⟨hk.1, m _ _ hk.2⟩)
    · rename_i h1
      simp only [h1]
      exact .inl (rnF_ok h fun v ws hk => ⟨hk.1, m _ _ hk.2⟩)
    · exact h.elim
  · generalize he : evS P σ H i = o at h
    cases o with
    | none => exact h.elim
    | some x => obtain ⟨c, v, ws⟩ := x; exact evS_ok he h.1 (m _ _ h.2)
end
def rnOps (P : Program) (K : Slots → LH → Prop) : List IOp → Slots → LH → Prop
  | [], σ, H => K σ H
  | i :: l, σ, H => rnS P σ H (fun v ws => rnOps P K l (Slots.put σ i.d v) (LH.sets H ws)) ⟨⟩ i
theorem rnOps_nil {P : Program} {K : Slots → LH → Prop} {σ : Slots} {H : LH} : rnOps P K [] σ H = K σ H := (rfl)
theorem rnOps_cons {P : Program} {K : Slots → LH → Prop} {σ : Slots} {H : LH} {i : IOp} {l : List IOp} : rnOps P K (i :: l) σ H = rnS P σ H (fun v ws => rnOps P K l (Slots.put σ i.d v) (LH.sets H ws)) ⟨⟩ i := (rfl)
theorem rnOps_ok {P : Program} {K K' : Slots → LH → Prop} (m : ∀ σ H, K σ H → K' σ H) : ∀ (l : List IOp) {σ : Slots} {H : LH}, rnOps P K l σ H → opsW P l σ H K'
  | [], σ, H, h => m _ _ h
  | i :: l, σ, H, h => rnS_ok h fun v ws hk => rnOps_ok m l hk
def pendR (P : Program) (σ : Slots) (H : LH) : List (Nat × IOp × AV) → Prop
  | [] => True
  | (_, i, v) :: l => (rnS P σ H (fun v' ws => ws = [] ∧ v' = v) ⟨⟩ i) ∧ pendR P σ H l
theorem pendR_nil {P : Program} {σ : Slots} {H : LH} : pendR P σ H [] = True := (rfl)
theorem pendR_cons {P : Program} {σ : Slots} {H : LH} {k : Nat} {i : IOp} {v : AV} {l : List (Nat × IOp × AV)} : pendR P σ H ((k, i, v) :: l) = ((rnS P σ H (fun v' ws => ws = [] ∧ v' = v) ⟨⟩ i) ∧ pendR P σ H l) := (rfl)
theorem pendR_ok {P : Program} {σ : Slots} {H : LH} : ∀ {l : List (Nat × IOp × AV)}, pendR P σ H l → pendW P σ H l
  | [], _ => trivial
  | (_, i, v) :: l, h => ⟨rnS_ok h.1 fun _ _ hk => hk, pendR_ok h.2⟩
def rnD (P : Program) (K : Slots → LH → Prop) : DT → List (Nat × IOp × AV) → Slots → LH → Prop
  | .done, _, σ, H => K σ H
  | .no, _, _, _ => True
  | .take k i t, pd, σ, H => rnS P σ H (fun v ws => ws = [] ∧ rnD P K t ((k, i, v) :: pd) (Slots.put σ i.d v) H) ⟨⟩ i
  | .br _ i ms t r, pd, σ, H => (rnS P σ H (fun v ws => pendR P (Slots.put σ i.d v) (LH.sets H ws) (sel ms pd) ∧ rnD P K t (sel ms pd) (Slots.put σ i.d v) (LH.sets H ws)) ⟨⟩ i) ∧ rnD P K r pd σ H
section
variable {P : Program} {K : Slots → LH → Prop} {pd : List (Nat × IOp × AV)} {σ : Slots} {H : LH}
theorem rnD_done : rnD P K .done pd σ H = K σ H := (rfl)
theorem rnD_no : rnD P K .no pd σ H = True := (rfl)
theorem rnD_take {k : Nat} {i : IOp} {t : DT} : rnD P K (.take k i t) pd σ H = rnS P σ H (fun v ws => ws = [] ∧ rnD P K t ((k, i, v) :: pd) (Slots.put σ i.d v) H) ⟨⟩ i := (rfl)
theorem rnD_br {k : Nat} {i : IOp} {ms : List Bool} {t r : DT} : rnD P K (.br k i ms t r) pd σ H =
  ((rnS P σ H (fun v ws => pendR P (Slots.put σ i.d v) (LH.sets H ws) (sel ms pd) ∧ rnD P K t (sel ms pd) (Slots.put σ i.d v) (LH.sets H ws)) ⟨⟩ i) ∧ rnD P K r pd σ H) := (rfl)
theorem rnD_ok {K' : Slots → LH → Prop} (m : ∀ σ H, K σ H → K' σ H) : ∀ (t : DT) {pd : List (Nat × IOp × AV)} {σ : Slots} {H : LH}, rnD P K t pd σ H → drawW P K' t pd σ H
  | .done, _, _, _, h => m _ _ h
  | .no, _, _, _, _ => trivial
  | .take k i t, pd, σ, H, h => rnS_ok h fun v ws hk => ⟨hk.1, rnD_ok m t hk.2⟩
  | .br k i ms t r, pd, σ, H, h => ⟨rnS_ok h.1 fun v ws hk => ⟨pendR_ok hk.1, rnD_ok m t hk.2⟩, rnD_ok m r h.2⟩
end
def condK (p q : Prop) (b : Bar p) (b' : Bar q) : AV → Prop
  | .c (.bool t) => (t = true → p) ∧ (t = false → q)
  | _ => False
theorem condK_bool {p q : Prop} {b : Bar p} {b' : Bar q} {t : Bool} : condK p q b b' (.c (.bool t)) = ((t = true → p) ∧ (t = false → q)) := (rfl)
def lpR (n : Norm) (X : Slots → LH → Prop) (Q : Ex → Slots → LH → Prop) : Ex → Slots → LH → Prop
  | .norm => fun σ H => goN X ⟨⟩ (normE σ H n)
  | .exit i => Q (.exit i)
  | .ret => Q .ret
  | .pan t k m => Q (.pan t k m)
def loopR (B : (Ex → Slots → LH → Prop) → Slots → LH → Prop) (n : Norm) (Q : Ex → Slots → LH → Prop) (b : Bar B) (b' : Bar n) (b'' : Bar Q) (σ : Slots) (H : LH) : Prop :=
  ∀ X : Slots → LH → Prop, (∀ σ H, B (lpR n X Q) σ H → X σ H) → goN X ⟨⟩ (normE σ H n)
def lpZ (ts : List Nat) (X : Slots → LH → Prop) (Q : Ex → Slots → LH → Prop) : Ex → Slots → LH → Prop
  | .norm => fun σ H => X (keepS σ ts) H
  | .exit i => Q (.exit i)
  | .ret => Q .ret
  | .pan t k m => Q (.pan t k m)
def loopZR (B : (Ex → Slots → LH → Prop) → Slots → LH → Prop) (ts : List Nat) (Q : Ex → Slots → LH → Prop) (b : Bar B) (b' : Bar ts) (b'' : Bar Q) (σ : Slots) (H : LH) : Prop :=
  ∀ X : Slots → LH → Prop, (∀ σ H, B (lpZ ts X Q) σ H → X σ H) → X (keepS σ ts) H
def pcRow (H : LH) (i k off len r : Nat) (cs : List AV) : Option LObj → Option (Prop × LH)
  | some (.row e xs) => some ((k < cs.length ∧ r ≠ i), LH.set (LH.set H r (.vrow e xs)) i (.obj (cs.set k (.c (.sl e ((xs.drop off).take len))))))
  | _ => none
def pcCell (H : LH) (i k : Nat) (cs : List AV) : AV → Option (Prop × LH)
  | .osl r off len => pcRow H i k off len r cs (LH.get H r)
  | _ => none
def pcObj (H : LH) (i k : Nat) : Option LObj → Option (Prop × LH)
  | some (.obj cs) => pcCell H i k cs (cs.getD k (.c .undef))
  | _ => none
def pubE (H : LH) : AV → Option (Prop × LH)
  | .osl i _ _ => match LH.get H i with
    | some (.row e xs) => some (True, LH.set H i (.vrow e xs))
    | _ => none
  | _ => none
def pubcE (H : LH) (k : Nat) : AV → Option (Prop × LH)
  | .ref i _ => pcObj H i k (LH.get H i)
  | _ => none
def tcRow (H : LH) (i k u off len r : Nat) (cs : List AV) : Option LObj → Option (Prop × LH)
  | some (.row e xs) => some ((k < cs.length ∧ r ≠ i ∧ off = 0 ∧ fresh H u), LH.set (LH.set (LH.set H r .dead) (64 * u) (.row e (xs.take len))) i (.obj (cs.set k (.osl (64 * u) 0 len))))
  | _ => none
def tcCell (H : LH) (i k u : Nat) (cs : List AV) : AV → Option (Prop × LH)
  | .osl r off len => tcRow H i k u off len r cs (LH.get H r)
  | .c .nilsl => some (True, H)
  | _ => none
def tcObj (H : LH) (i k u : Nat) : Option LObj → Option (Prop × LH)
  | some (.obj cs) => tcCell H i k u cs (cs.getD k (.c .undef))
  | _ => none
def truncE (H : LH) (k u : Nat) : AV → Option (Prop × LH)
  | .ref i _ => tcObj H i k u (LH.get H i)
  | _ => none
def callXR (P : Program) (f : FuncId) (H : List (Nat × LObj)) (u : Nat) (K : AV → List (Nat × LObj) → Prop) (F : TypeId → IntKind → Int → LH → Prop) (b : Bar K) (b' : Bar F) (args : List Arg) (m : List (Nat × Option Nat)) (V : List Nat) (H' : List (Nat × LObj)) : Prop :=
  callK P True f H u K b args m V H' ∨ ((∀ i ∈ V, isLive H' i) ∧ ∃ t k n, CWp P f args t k n ∧ F t k n H')
def goX (P : Program) (f : FuncId) (H : List (Nat × LObj)) (u : Nat) (K : AV → List (Nat × LObj) → Prop) (F : TypeId → IntKind → Int → LH → Prop) (b : Bar K) (b' : Bar F) : RA → Prop
  | some (c, args, m, V, H') => c ∧ callXR P f H u K F b b' args m V H'
  | none => False
def rnX (P : Program) (σ : Slots) (H : LH) (u : Nat) (as0 : List (Opd × Mode)) (K : AV → List (Nat × LObj) → Prop) (F : TypeId → IntKind → Int → LH → Prop) (b : Bar K) (b' : Bar F) : AV → Prop
  | .c (.fn f) => goX P f H u K F b b' (argsE True argBase (as0.map fun x => (val σ x.1, x.2)) H 0)
  | _ => False
section
variable {P : Program} {f : FuncId} {σ : Slots} {H : LH} {u : Nat} {as0 : List (Opd × Mode)} {K : AV → List (Nat × LObj) → Prop} {F : TypeId → IntKind → Int → LH → Prop} {b : Bar K} {b' : Bar F}
theorem rnX_fn : rnX P σ H u as0 K F b b' (.c (.fn f)) = goX P f H u K F b b' (argsE True argBase (as0.map fun x => (val σ x.1, x.2)) H 0) := (rfl)
theorem goX_some {c : Prop} {args : List Arg} {m : List (Nat × Option Nat)} {V : List Nat} {H' : LH} : goX P f H u K F b b' (some (c, args, m, V, H')) = (c ∧ callXR P f H u K F b b' args m V H') := (rfl)
theorem rnX_ok {f : Opd} {K' : AV → List (Nat × LObj) → Prop} {F' : TypeId → IntKind → Int → LH → Prop} (h : rnX P σ H u as0 K F b b' (val σ f)) (m : ∀ v ws, K v ws → K' v ws) (m' : ∀ t k n H, F t k n H → F' t k n H) : callX P σ H u f as0 K' F' := by
  unfold rnX at h
  split at h
  · rename_i fn hf
    generalize he : argsE True argBase (as0.map fun x => (val σ x.1, x.2)) H 0 = o at h
    cases o with
    | none => exact h.elim
    | some x =>
      obtain ⟨c, args, mm, V, H'⟩ := x
      obtain ⟨hc, h⟩ := h
      rcases h with h | ⟨h1, t, k, n, h2, h3⟩
      · left
        refine rnF_ok (K := K) (b := ⟨⟩) ?_ m
        rw [hf]
        show goA P True fn H u K ⟨⟩ (argsE True argBase (as0.map fun x => (val σ x.1, x.2)) H 0)
        rw [he]
        exact ⟨hc, h⟩
      · right
        exact ⟨fn, hf, argsE_ok he hc ⟨h1, t, k, n, h2, m' _ _ _ _ h3⟩⟩
  · exact h.elim
end
def goP (K : LH → Prop) (b : Bar K) : Option (Prop × LH) → Prop
  | some (c, H) => c ∧ K H
  | none => False
theorem goP_some {K : LH → Prop} {b : Bar K} {c : Prop} {H : LH} : goP K b (some (c, H)) = (c ∧ K H) := (rfl)
def trR (t k u : Nat) (Q : Ex → Slots → LH → Prop) : Ex → Slots → LH → Prop
  | .norm => fun σ H => goP (Q .norm σ) ⟨⟩ (truncE H k u (Slots.get σ t))
  | .exit i => Q (.exit i)
  | .ret => Q .ret
  | .pan t k m => Q (.pan t k m)
def rnC (P : Program) : IC → (Ex → Slots → LH → Prop) → Slots → LH → Prop
  | .skip, Q, σ, H => Q .norm σ H
  | .reg ops, Q, σ, H => rnOps P (Q .norm) ops σ H
  | .draw t, Q, σ, H => rnD P (Q .norm) t [] σ H
  | .seq a b, Q, σ, H => rnC P a (fun e σ H => match e with | .norm => rnC P b Q σ H | .exit i => Q (.exit i) σ H | .ret => Q .ret σ H | .pan t k n => Q (.pan t k n) σ H) σ H
  | .cond x a b, Q, σ, H => condK (rnC P a Q (setB σ x true) H) (rnC P b Q (setB σ x false) H) ⟨⟩ ⟨⟩ (val σ x)
  | .block id a, Q, σ, H => rnC P a (fun e σ H => match e with | .exit i => (if i = id then Q .norm σ H else Q (.exit i) σ H) | .norm => Q .norm σ H | .ret => Q .ret σ H | .pan t k n => Q (.pan t k n) σ H) σ H
  | .loop n a, Q, σ, H => loopR (rnC P a) n Q ⟨⟩ ⟨⟩ ⟨⟩ σ H
  | .exit id, Q, σ, H => Q (.exit id) σ H
  | .ret, Q, σ, H => Q .ret σ H
  | .keep n a, Q, σ, H => goN (rnC P a Q) ⟨⟩ (normE σ H n)
  | .pub t a, Q, σ, H => goP (rnC P a Q σ) ⟨⟩ (pubE H (Slots.get σ t))
  | .pubc t k a, Q, σ, H => goP (rnC P a Q σ) ⟨⟩ (pubcE H k (Slots.get σ t))
  | .trunc t k u a, Q, σ, H => rnC P a (trR t k u Q) σ H
  | .loop0 ts a, Q, σ, H => loopZR (rnC P a) ts Q ⟨⟩ ⟨⟩ ⟨⟩ σ H
  | .pan t k n, Q, _, H => Q (.pan t k n) [] H
  | .regc ops d u f as0, Q, σ, H => rnOps P (fun σ H => rnX P σ H u as0 (fun v ws => Q .norm (Slots.put σ d v) (LH.sets H ws)) (fun t k n H' => Q (.pan t k n) σ H') ⟨⟩ ⟨⟩ (val σ f)) ops σ H
theorem goP_pub {H : LH} {K K' : LH → Prop} {b : Bar K} {v : AV} (h : goP K b (pubE H v)) (m : ∀ H, K H → K' H) : pubW H v K' := by
  unfold pubE at h
  unfold pubW
  split at h
  · split at h
    · rename_i hg; simp only [hg]; exact m _ h.2
    · exact h.elim
  · exact h.elim
theorem goP_pubc {H : LH} {K K' : LH → Prop} {b : Bar K} {v : AV} {k : Nat} (h : goP K b (pubcE H k v)) (m : ∀ H, K H → K' H) : pubcW H v k K' := by
  unfold pubcE at h
  unfold pubcW
  split at h
  · unfold pcObj at h
    split at h
    · rename_i hg
      simp only [hg]
      unfold pcCell at h
      split at h
      · rename_i hcell
        unfold pcRow at h
        split at h
        · rename_i hr; simp only [hcell, hr]; exact ⟨h.1, m _ h.2⟩
        · exact h.elim
      · exact h.elim
    · exact h.elim
  · exact h.elim
theorem goP_trunc {H : LH} {K K' : LH → Prop} {b : Bar K} {v : AV} {k u : Nat} (h : goP K b (truncE H k u v)) (m : ∀ H, K H → K' H) : truncW H v k u K' := by
  unfold truncE at h
  unfold truncW
  split at h
  · unfold tcObj at h
    split at h
    · rename_i hg
      simp only [hg]
      unfold tcCell at h
      split at h
      · rename_i hcell
        unfold tcRow at h
        split at h
        · rename_i hr; simp only [hcell, hr]; exact ⟨h.1, m _ h.2⟩
        · exact h.elim
      · rename_i hcell
        simp only [hcell]
        exact m _ h.2
      · exact h.elim
    · exact h.elim
  · exact h.elim
theorem rn_ok {P : Program} : ∀ (ic : IC) {Q Q' : Ex → Slots → LH → Prop} (m : ∀ e σ H, Q e σ H → Q' e σ H) {σ : Slots} {H : LH}, rnC P ic Q σ H → wpC P ic Q' σ H := by
  intro ic
  induction ic with
  | skip => intro Q Q' m σ H h; exact m _ _ _ h
  | reg ops => intro Q Q' m σ H h; exact rnOps_ok (m .norm) ops h
  | draw t => intro Q Q' m σ H h; exact rnD_ok (m .norm) t h
  | seq a b iha ihb =>
    intro Q Q' m σ H h
    refine iha (fun e σ H hk => ?_) h
    cases e with
    | norm => exact ihb m hk
    | exit i => exact m _ _ _ hk
    | ret => exact m _ _ _ hk
    | pan t k n => exact m _ _ _ hk
  | cond x a b iha ihb =>
    intro Q Q' m σ H h
    simp only [rnC] at h
    simp only [wpC]
    unfold condK at h
    split at h
    · rename_i t ht
      simp only [ht]
      exact ⟨fun e => iha m (h.1 e), fun e => ihb m (h.2 e)⟩
    · exact h.elim
  | block id a iha =>
    intro Q Q' m σ H h
    refine iha (fun e σ H hk => ?_) h
    cases e with
    | norm => exact m _ _ _ hk
    | exit i =>
      simp only at hk ⊢
      split at hk
      · rename_i e; rw [if_pos e]; exact m _ _ _ hk
      · rename_i e; rw [if_neg e]; exact m _ _ _ hk
    | ret => exact m _ _ _ hk
    | pan t k n => exact m _ _ _ hk
  | loop n a iha =>
    intro Q Q' m σ H h
    intro X hX
    refine goN_ok (h X fun σ H hb => hX σ H (iha (fun e σ H hk => ?_) hb)) fun _ _ hx => hx
    cases e with
    | norm => exact goN_ok (b := ⟨⟩) hk fun _ _ hx => hx
    | exit i => exact m _ _ _ hk
    | ret => exact m _ _ _ hk
    | pan t k n => exact m _ _ _ hk
  | exit id => intro Q Q' m σ H h; exact m _ _ _ h
  | ret => intro Q Q' m σ H h; exact m _ _ _ h
  | keep n a iha => intro Q Q' m σ H h; exact goN_ok h fun _ _ hk => iha m hk
  | pub t a iha => intro Q Q' m σ H h; exact goP_pub h fun _ hk => iha m hk
  | pubc t k a iha => intro Q Q' m σ H h; exact goP_pubc h fun _ hk => iha m hk
  | loop0 ts a iha =>
    intro Q Q' m σ H h
    intro X hX
    refine h X fun σ H hb => hX σ H (iha (fun e σ H hk => ?_) hb)
    cases e with
    | norm => exact hk
    | exit i => exact m _ _ _ hk
    | ret => exact m _ _ _ hk
    | pan t k n => exact m _ _ _ hk
  | trunc t k u a iha =>
    intro Q Q' m σ H h
    refine iha (fun e σ H hk => ?_) h
    cases e with
    | norm => exact goP_trunc (b := ⟨⟩) hk fun _ hk => m _ _ _ hk
    | exit i => exact m _ _ _ hk
    | ret => exact m _ _ _ hk
    | pan t k n => exact m _ _ _ hk
  | pan t k n => intro Q Q' m σ H h; exact m _ _ _ h
  | regc ops d u f as0 => intro Q Q' m σ H h; exact rnOps_ok (fun σ H hx => rnX_ok hx (fun _ _ hk => m _ _ _ hk) fun _ _ _ _ hk => m _ _ _ hk) ops h
section
variable {P : Program} {n : Norm} {X : Slots → LH → Prop} {Q : Ex → Slots → LH → Prop} {σ : Slots} {H : LH} {i id t k : Nat} {a b : IC}
theorem lpR_norm : lpR n X Q .norm σ H = goN X ⟨⟩ (normE σ H n) := (rfl)
theorem lpR_ret : lpR n X Q .ret σ H = Q .ret σ H := (rfl)
theorem lpR_exit : lpR n X Q (.exit i) σ H = Q (.exit i) σ H := (rfl)
def seqR (P : Program) (b : IC) (Q : Ex → Slots → LH → Prop) : Ex → Slots → LH → Prop := fun e σ H =>
  match e with
  | .norm => rnC P b Q σ H
  | .exit i => Q (.exit i) σ H
  | .ret => Q .ret σ H
  | .pan t k n => Q (.pan t k n) σ H
theorem seqR_pan {t : TypeId} {k : IntKind} {n : Int} : seqR P b Q (.pan t k n) σ H = Q (.pan t k n) σ H := (rfl)
theorem seqR_norm : seqR P b Q .norm σ H = rnC P b Q σ H := (rfl)
theorem seqR_ret : seqR P b Q .ret σ H = Q .ret σ H := (rfl)
theorem seqR_exit : seqR P b Q (.exit i) σ H = Q (.exit i) σ H := (rfl)
def blkR (id : Nat) (Q : Ex → Slots → LH → Prop) : Ex → Slots → LH → Prop := fun e σ H =>
  match e with
  | .exit i => (if i = id then Q .norm σ H else Q (.exit i) σ H)
  | .norm => Q .norm σ H
  | .ret => Q .ret σ H
  | .pan t k n => Q (.pan t k n) σ H
theorem blkR_pan {t : TypeId} {k : IntKind} {n : Int} : blkR id Q (.pan t k n) σ H = Q (.pan t k n) σ H := (rfl)
theorem lpR_pan {m : Norm} {t : TypeId} {k : IntKind} {n : Int} : lpR m X Q (.pan t k n) σ H = Q (.pan t k n) σ H := (rfl)
theorem rnC_pan {t : TypeId} {k : IntKind} {n : Int} : rnC P (.pan t k n) Q σ H = Q (.pan t k n) [] H := (rfl)
theorem rnC_trunc {u : Nat} : rnC P (.trunc t k u a) Q σ H = rnC P a (trR t k u Q) σ H := (rfl)
theorem trR_norm {u : Nat} : trR t k u Q .norm σ H = goP (Q .norm σ) ⟨⟩ (truncE H k u (Slots.get σ t)) := (rfl)
theorem trR_ret {u : Nat} : trR t k u Q .ret σ H = Q .ret σ H := (rfl)
theorem trR_exit {u : Nat} : trR t k u Q (.exit i) σ H = Q (.exit i) σ H := (rfl)
theorem trR_pan {u : Nat} {t' : TypeId} {k' : IntKind} {n : Int} : trR t k u Q (.pan t' k' n) σ H = Q (.pan t' k' n) σ H := (rfl)
theorem rnC_loop0 {ts : List Nat} : rnC P (.loop0 ts a) Q σ H = loopZR (rnC P a) ts Q ⟨⟩ ⟨⟩ ⟨⟩ σ H := (rfl)
theorem lpZ_norm {ts : List Nat} : lpZ ts X Q .norm σ H = X (keepS σ ts) H := (rfl)
theorem lpZ_ret {ts : List Nat} : lpZ ts X Q .ret σ H = Q .ret σ H := (rfl)
theorem lpZ_exit {ts : List Nat} : lpZ ts X Q (.exit i) σ H = Q (.exit i) σ H := (rfl)
theorem lpZ_pan {ts : List Nat} {t : TypeId} {k : IntKind} {n : Int} : lpZ ts X Q (.pan t k n) σ H = Q (.pan t k n) σ H := (rfl)
theorem rnC_regc {ops : List IOp} {d : Option Nat} {u : Nat} {f : Opd} {as0 : List (Opd × Mode)} : rnC P (.regc ops d u f as0) Q σ H = rnOps P (fun σ H => rnX P σ H u as0 (fun v ws => Q .norm (Slots.put σ d v) (LH.sets H ws)) (fun t k n H' => Q (.pan t k n) σ H') ⟨⟩ ⟨⟩ (val σ f)) ops σ H := (rfl)
theorem blkR_norm : blkR id Q .norm σ H = Q .norm σ H := (rfl)
theorem blkR_ret : blkR id Q .ret σ H = Q .ret σ H := (rfl)
theorem blkR_hit (h : i = id) : blkR id Q (.exit i) σ H = Q .norm σ H := if_pos h
theorem blkR_miss (h : ¬ i = id) : blkR id Q (.exit i) σ H = Q (.exit i) σ H := if_neg h
theorem rnC_seq : rnC P (.seq a b) Q σ H = rnC P a (seqR P b Q) σ H := (rfl)
theorem rnC_block : rnC P (.block id a) Q σ H = rnC P a (blkR id Q) σ H := (rfl)
theorem rnC_skip : rnC P .skip Q σ H = Q .norm σ H := (rfl)
theorem rnC_ret : rnC P .ret Q σ H = Q .ret σ H := (rfl)
theorem rnC_exit : rnC P (.exit id) Q σ H = Q (.exit id) σ H := (rfl)
theorem rnC_reg {ops : List IOp} : rnC P (.reg ops) Q σ H = rnOps P (Q .norm) ops σ H := (rfl)
theorem rnC_draw {t : DT} : rnC P (.draw t) Q σ H = rnD P (Q .norm) t [] σ H := (rfl)
theorem rnC_cond {x : Opd} : rnC P (.cond x a b) Q σ H = condK (rnC P a Q (setB σ x true) H) (rnC P b Q (setB σ x false) H) ⟨⟩ ⟨⟩ (val σ x) := (rfl)
theorem rnC_loop : rnC P (.loop n a) Q σ H = loopR (rnC P a) n Q ⟨⟩ ⟨⟩ ⟨⟩ σ H := (rfl)
theorem rnC_keep : rnC P (.keep n a) Q σ H = goN (rnC P a Q) ⟨⟩ (normE σ H n) := (rfl)
theorem rnC_pub : rnC P (.pub t a) Q σ H = goP (rnC P a Q σ) ⟨⟩ (pubE H (Slots.get σ t)) := (rfl)
theorem rnC_pubc : rnC P (.pubc t k a) Q σ H = goP (rnC P a Q σ) ⟨⟩ (pubcE H k (Slots.get σ t)) := (rfl)
end
theorem loopR.by {α : Type} {B : (Ex → Slots → LH → Prop) → Slots → LH → Prop} {n : Norm} {Q : Ex → Slots → LH → Prop} {b : Bar B} {b' : Bar n} {b'' : Bar Q} {σ : Slots} {H : LH}
    (s : α → Slots) (h : α → LH) (m : α → Nat) (I : α → Prop) (a : α) (ha : I a)
    (entry : ∀ Y : Slots → LH → Prop, Y (s a) (h a) → goN Y ⟨⟩ (normE σ H n))
    (step : ∀ a, I a → ∀ Y : Slots → LH → Prop, (∀ a', I a' → m a' < m a → Y (s a') (h a')) → B (lpR n Y Q) (s a) (h a)) :
    loopR B n Q b b' b'' σ H := by
  intro X hX
  refine entry X ?_
  have main : ∀ k a, m a < k → I a → X (s a) (h a) := by
    intro k
    induction k with
    | zero => intro a h _; omega
    | succ k ih =>
      intro a hk hi
      exact hX _ _ (step a hi X fun a' hi' hlt => ih a' (by omega) hi')
  exact main _ a (Nat.lt_succ_self _) ha
theorem loopZR.by {α : Type} {B : (Ex → Slots → LH → Prop) → Slots → LH → Prop} {ts : List Nat} {Q : Ex → Slots → LH → Prop} {b : Bar B} {b' : Bar ts} {b'' : Bar Q} {σ : Slots} {H : LH}
    (s : α → Slots) (h : α → LH) (m : α → Nat) (I : α → Prop) (a : α) (ha : I a)
    (entry : ∀ Y : Slots → LH → Prop, Y (s a) (h a) → Y (keepS σ ts) H)
    (step : ∀ a, I a → ∀ Y : Slots → LH → Prop, (∀ a', I a' → m a' < m a → Y (s a') (h a')) → B (lpZ ts Y Q) (s a) (h a)) :
    loopZR B ts Q b b' b'' σ H := by
  intro X hX
  refine entry X ?_
  have main : ∀ k a, m a < k → I a → X (s a) (h a) := by
    intro k
    induction k with
    | zero => intro a h _; omega
    | succ k ih =>
      intro a hk hi
      exact hX _ _ (step a hi X fun a' hi' hlt => ih a' (by omega) hi')
  exact main _ a (Nat.lt_succ_self _) ha
theorem CW.of {P : Program} {f : FuncId} {fn : Func} (hf : P.funcs[f]? = some fn) {args : List Arg} {out : Out} (rs : List (Nat × Option Nat × Mode)) (mss : List (List (Option Nat))) {ic : IC}
    (hb : (match fn.body with | some _ => true | none => false) = true) (hfn : isFn P f = true) (hr : chkRet P fn.results.toList rs = true) (ha : args.length.ble fn.ntmps = true) (h8 : args.length.ble 8 = true)
    (hc : chkC P fn.ntmps ic (fn.body.getD .skip) = true) (hbk : backOK args out.back)
    (hw : rnC P ic (fun e σ H => match e with | .exit _ => False | .pan _ _ _ => False | _ => retW σ H rs args mss out) (slotsOf (argsAV argBase args 0) 0) (argsOb argBase args 0)) : CW P f args out := by
  cases hbd : fn.body with
  | none => rw [hbd] at hb; cases hb
  | some c =>
    rw [hbd] at hc
    exact CW_of hf hbd hfn hr (Nat.le_of_ble_eq_true ha) (Nat.le_of_ble_eq_true h8) hc hbk (rn_ok _ (fun _ _ _ h => h) hw)
def topQ (rs : List (Nat × Option Nat × Mode)) (args : List Arg) (mss : List (List (Option Nat))) (out : Out) : Ex → Slots → LH → Prop := fun e σ H =>
  match e with
  | .exit _ => False
  | .pan _ _ _ => False
  | _ => retW σ H rs args mss out
theorem topQ_ret {rs : List (Nat × Option Nat × Mode)} {args : List Arg} {mss : List (List (Option Nat))} {out : Out} {σ : Slots} {H : LH} : topQ rs args mss out .ret σ H = retW σ H rs args mss out := (rfl)
theorem topQ_norm {rs : List (Nat × Option Nat × Mode)} {args : List Arg} {mss : List (List (Option Nat))} {out : Out} {σ : Slots} {H : LH} : topQ rs args mss out .norm σ H = retW σ H rs args mss out := (rfl)
theorem topQ_exit {rs : List (Nat × Option Nat × Mode)} {args : List Arg} {mss : List (List (Option Nat))} {out : Out} {σ : Slots} {H : LH} {i : Nat} : topQ rs args mss out (.exit i) σ H = False := (rfl)
theorem topQ_pan {rs : List (Nat × Option Nat × Mode)} {args : List Arg} {mss : List (List (Option Nat))} {out : Out} {σ : Slots} {H : LH} {t : TypeId} {k : IntKind} {n : Int} : topQ rs args mss out (.pan t k n) σ H = False := (rfl)
attribute [go_sem ↓] rnC_seq rnC_block rnC_skip rnC_ret rnC_exit rnC_reg rnC_draw rnC_cond rnC_loop rnC_keep rnC_pub rnC_pubc rnC_loop0 lpZ_norm lpZ_ret lpZ_exit lpZ_pan trR_norm trR_ret trR_exit trR_pan keepS rnC_pan rnC_regc rnC_trunc seqR_pan blkR_pan lpR_pan seqR_norm seqR_ret seqR_exit blkR_norm blkR_ret blkR_hit blkR_miss lpR_norm lpR_ret lpR_exit rnOps_nil rnOps_cons rnD_done rnD_no rnD_take rnD_br pendR_nil pendR_cons rnS_call rnS_callg rnS_mv rnS_pick rnS_bin rnS_not rnS_cpl rnS_conv rnS_b2s rnS_s2b rnS_len rnS_mn rnS_mx rnS_ext rnS_sidx rnS_aidx rnS_fa rnS_ia rnS_ld rnS_st rnS_nck rnS_alloc rnS_box rnS_bld rnS_bsl rnS_slc rnS_ssl rnS_app rnS_isnil rnS_beq rnS_bne rnS_mks
attribute [go_sem] go3_some goA_some goN_some goP_some rnX_fn goX_some tcRow tcCell tcObj truncE rnF_fn rnG_c rnG_g condK_bool evS evO evG grd3 ungE lift3 eBinI eInt eStr eFlt eBin eBeq eBne ePick eNot eCpl eConv eRowLen eNat eLen eRow eElems eB2s eB2s' eS2b eMn eMx eExt eSidx eAidx eFaO eFaR eFa eIaR eIa eClosed eAgg eLdO eLdR eLd eStO eStR eSt eNckO eNckR eNck eBox eBldC eBld eBldF eBslF eIntO eOpt bndP eSlcR eSlcV eSlc eSsl eAppR eApp eNilR eNil cPre cRow cellsE aPlain aViewR aView aMoveR aMove aMutrR aMutr aPtrC aPtrR aPtr argE aJoin aThen argsE kin kPlain kOwnR kOwn keepE klPre klThen keepCellsE koPre koThen koR keepObjsE ksPre ksThen keepSlotsE nFin nThen normE pcRow pcCell pcObj pubE pubcE storable
attribute [go_sem] List.getD_nil not_true_eq_false List.cons_append List.nodup_nil List.nodup_cons flat setB sel eq_self val Slots.get Slots.put Slots.set LH.get LH.set LH.sets slotsOf argsAV argsOb cellsAV cellsOb Arg.av Arg.ob OC.av OC.ob OC.arg impAV impOb impRes mget backW backArgs deadOf setC isLive argBase Option.getD_some Option.getD_none
attribute [go_sem] true_and and_true List.append_nil List.nil_append List.map_cons List.map_nil List.not_mem_nil false_implies implies_true forall_const decide_eq_true_eq decide_eq_false_iff_not List.length_nil true_implies Int.not_lt gt_iff_lt ge_iff_le Int.not_le false_and and_false List.forall_mem_cons Prod.forall List.mem_cons forall_eq_or_imp forall_eq
theorem wf_one {v : CV} (h : v.one = true) : CV.wf 1 v := by
  cases v <;> first | (cases h; done) | (refine ⟨rfl, fun c hc => ?_⟩; simp [CV.cells] at hc; subst hc; rfl)
theorem wf_int {k : IntKind} {n : Int} : CV.wf 1 (.int k n) = True := eq_true (wf_one rfl)
theorem wf_str {s : ByteArray} : CV.wf 1 (.str s) = True := eq_true (wf_one rfl)
theorem wf_agg {n : Nat} {cs : List CV} : CV.wf n (.agg cs) = (cs.length = n ∧ ∀ c ∈ cs, c.one = true) := rfl
theorem fresh_nil {u : Nat} : fresh [] u = (u < 15000) := by simp [fresh]
theorem fresh_cons {u k : Nat} {o : LObj} {H : List (Nat × LObj)} : fresh ((k, o) :: H) u = (k / 64 ≠ u ∧ fresh H u) := by
  apply propext
  unfold fresh
  simp only [List.forall_mem_cons]
  constructor
  · rintro ⟨a, b, c⟩; exact ⟨b, a, c⟩
  · rintro ⟨a, b, c⟩; exact ⟨b, a, c⟩
theorem freshC_nil {u : Nat} : freshC [] u = (u + 10 < 15000) := by simp [freshC]
theorem freshC_cons {u k : Nat} {o : LObj} {H : List (Nat × LObj)} : freshC ((k, o) :: H) u = ((k / 64 < u ∨ u + 9 ≤ k / 64) ∧ freshC H u) := by
  apply propext
  unfold freshC
  simp only [List.forall_mem_cons]
  constructor
  · rintro ⟨a, b, c⟩; exact ⟨b, a, c⟩
  · rintro ⟨a, b, c⟩; exact ⟨b, a, c⟩
attribute [go_sem] fresh_nil fresh_cons freshC_nil freshC_cons
theorem ex_agg {l : List CV} : (∃ cs, CV.agg l = CV.agg cs) = True := eq_true ⟨_, rfl⟩
theorem tf : (true = false) = False := by simp
theorem ft : (false = true) = False := by simp
theorem tt : (true = true) = True := by simp
theorem ff : (false = false) = True := by simp
attribute [go_sem ↓] topQ_ret topQ_norm topQ_exit topQ_pan
attribute [go_sem] ex_agg tf ft tt ff wf_int wf_str wf_agg CV.one CV.cells true_or or_true ne_eq not_false_eq_true List.drop_zero List.take_zero List.length_cons List.length_append List.length_map List.getD_cons_zero List.getD_cons_succ List.set_cons_zero List.set_cons_succ Nat.zero_add List.take_succ_cons List.drop_succ_cons List.drop_nil List.take_nil exists_const
theorem bt (b : Bool) : (b == true) = b := by cases b <;> rfl
theorem bf (b : Bool) : (b == false) = !b := by cases b <;> rfl
attribute [go_sem] bt bf Bool.not_eq_true' Bool.not_eq_false' Bool.and_eq_true Bool.or_eq_true beq_iff_eq bne_iff_ne beq_eq_false_iff_ne bne_eq_false_iff_eq Bool.and_eq_false_iff Bool.or_eq_false_iff Bool.not_true Bool.not_false if_true if_false
theorem retVals_mono {H : LH} {σ : Slots} : ∀ {rs : List (Nat × Option Nat × Mode)} {K K' : List (AV × Mode) → Prop}, retVals H σ rs K → (∀ vs, K vs → K' vs) → retVals H σ rs K'
  | [], K, K', h, f => f _ h
  | (t, none, md) :: l, K, K', h, f => by
    simp only [retVals] at h ⊢
    exact retVals_mono (rs := l) h fun vs hv => f _ hv
  | (t, some n, md) :: l, K, K', h, f => by
    simp only [retVals] at h ⊢
    obtain ⟨v, a, b⟩ := ex_load h
    exact b _ (retVals_mono (rs := l) a fun vs hv => f _ hv)
theorem backL_mono {H : LH} : ∀ {as0 : List Arg} {mss : List (List (Option Nat))} {j : Nat} {K K' : List (AV × Mode) → Prop}, backL H as0 mss j K → (∀ vs, K vs → K' vs) → backL H as0 mss j K'
  | [], mss, j, K, K', h, f => f _ h
  | .cv _ :: as0, mss, j, K, K', h, f => by
    simp only [backL] at h ⊢
    exact backL_mono (as0 := as0) h fun vs hv => f _ hv
  | .own _ _ :: as0, mss, j, K, K', h, f => by
    simp only [backL] at h ⊢
    exact backL_mono (as0 := as0) h fun vs hv => f _ hv
  | .mutr _ _ :: as0, mss, j, K, K', h, f => by
    simp only [backL] at h ⊢
    split at h
    · exact backL_mono (as0 := as0) h fun vs hv => f _ hv
    · exact h.elim
  | .obj _ :: as0, [], j, K, K', h, f => by simp only [backL] at h
  | .obj _ :: as0, ms :: mss, j, K, K', h, f => by
    simp only [backL] at h ⊢
    split at h
    · exact backL_mono (as0 := as0) h fun vs hv => f _ hv
    · exact h.elim
theorem ungW_mono {g : Prop} {v : AV} {K K' : AV → Prop} (h : ungW g v K) (f : ∀ v, K v → K' v) : ungW g v K' := by
  obtain ⟨v', a, b⟩ := ex_ung h
  exact b _ (f _ a)
theorem cellsW_mono {base : Nat} : ∀ {ms : List (Option Nat)} {cs : List AV} {H : LH} {k : Nat} {K K' : List OC → List (Nat × Option Nat) → LH → Prop}, cellsW base H ms cs k K → (∀ a b c, K a b c → K' a b c) → cellsW base H ms cs k K' := by
  intro ms
  induction ms with
  | nil =>
    intro cs H k K K' h f
    cases cs with
    | nil => exact f _ _ _ h
    | cons => simp [cellsW] at h
  | cons m ms ih =>
    intro cs H k K K' h f
    cases cs with
    | nil => cases m <;> simp [cellsW] at h
    | cons c cs =>
      cases m with
      | none =>
        cases c with
        | c x => simp only [cellsW] at h ⊢; exact ih h fun a b c hh => f _ _ _ hh
        | _ => simp [cellsW] at h
      | some e =>
        cases c with
        | c x =>
          cases x with
          | nilsl => simp only [cellsW] at h ⊢; exact ih h fun a b c hh => f _ _ _ hh
          | _ => simp [cellsW] at h
        | osl i off len =>
          simp only [cellsW] at h ⊢
          split at h
          · exact ⟨h.1, ih h.2 fun a b c hh => f _ _ _ hh⟩
          · exact h.elim
        | _ => simp [cellsW] at h
theorem argW_mono {g : Prop} {H : LH} {id : Nat} {v : AV} {md : Mode} {K K' : Arg → List (Nat × Option Nat) → List Nat → LH → Prop} (h : argW g H id v md K) (f : ∀ a b c d, K a b c d → K' a b c d) : argW g H id v md K' := by
  cases md with
  | plain =>
    refine ungW_mono h fun v hv => ?_
    split at hv
    · exact f _ _ _ _ hv
    · exact hv.elim
  | view e =>
    refine ungW_mono h fun v hv => ?_
    split at hv
    · exact f _ _ _ _ hv
    · exact f _ _ _ _ hv
    · split at hv
      · exact f _ _ _ _ hv
      · exact f _ _ _ _ hv
      · exact hv.elim
    · exact hv.elim
  | move e =>
    simp only [argW] at h ⊢
    split at h
    · exact f _ _ _ _ h
    · split at h
      · exact ⟨h.1, f _ _ _ _ h.2⟩
      · exact h.elim
    · exact h.elim
  | mutr =>
    simp only [argW] at h ⊢
    split at h
    · split at h
      · exact ⟨h.1, f _ _ _ _ h.2⟩
      · exact h.elim
    · exact h.elim
  | ptr ms =>
    simp only [argW] at h ⊢
    split at h
    · split at h
      · exact ⟨h.1, cellsW_mono h.2 fun a b c hh => f _ _ _ _ hh⟩
      · exact h.elim
    · exact h.elim
theorem argsW_mono {g : Prop} {base : Nat} : ∀ {l : List (AV × Mode)} {H : LH} {j : Nat} {K K' : List Arg → List (Nat × Option Nat) → List Nat → LH → Prop}, argsW g base H l j K → (∀ a b c d, K a b c d → K' a b c d) → argsW g base H l j K'
  | [], H, j, K, K', h, f => f _ _ _ _ h
  | (v, md) :: l, H, j, K, K', h, f => by
    simp only [argsW] at h ⊢
    exact argW_mono h fun a b c d hh => argsW_mono (l := l) hh fun a' b' c' d' hh' => f _ _ _ _ hh'
def unlent : List Arg → Bool
  | [] => true
  | .cv _ :: l => unlent l
  | .own _ _ :: l => unlent l
  | _ => false
theorem back_unlent : ∀ (as0 : List Arg) (H H1 : LH) (j : Nat) (K : List Arg → List (Nat × Option Nat) → List Nat → LH → Prop), unlent as0 = true → K (backArgs as0 []) [] [] H1 →
    backL H1 as0 [] j fun bl => ∀ j', argsW True argBase H1 bl j' K
  | [], H, H1, j, K, _, h => fun j' => h
  | .cv v :: as0, H, H1, j, K, hu, h => by
    simp only [backL]
    refine (fun (x : backL H1 as0 [] (j + 1) fun bl => ∀ j', argsW True argBase H1 bl j' fun as' m' V' H'' => K (.cv .undef :: as') ([] ++ m') ([] ++ V') H'') => ?_) (back_unlent as0 H H1 (j + 1) _ hu h)
    refine (backL_mono x fun bl hbl j' => ?_)
    exact hbl (j' + 1)
  | .own e v :: as0, H, H1, j, K, hu, h => by
    simp only [backL]
    refine (fun (x : backL H1 as0 [] (j + 1) fun bl => ∀ j', argsW True argBase H1 bl j' fun as' m' V' H'' => K (.cv .undef :: as') ([] ++ m') ([] ++ V') H'') => ?_) (back_unlent as0 H H1 (j + 1) _ hu h)
    refine (backL_mono x fun bl hbl j' => ?_)
    exact hbl (j' + 1)
  | .mutr _ _ :: _, _, _, _, _, hu, _ => by cases hu
  | .obj _ :: _, _, _, _, _, hu, _ => by cases hu
theorem retW_unlent {σ : Slots} {H : LH} {rs : List (Nat × Option Nat × Mode)} {as0 : List Arg} {res : List OC} (hu : unlent as0 = true)
    (h : retVals H σ rs fun vs => argsW True retBase H vs 0 fun ras m1 V1 H1 => ras = res.map OC.arg ∧ V1 = []) : retW σ H rs as0 [] ⟨res, []⟩ := by
  unfold retW
  refine retVals_mono h fun vs hv => ?_
  refine argsW_mono hv fun ras m1 V1 H1 hh => ?_
  obtain ⟨rfl, rfl⟩ := hh
  refine backL_mono (back_unlent as0 H H1 0 (fun bas m2 V2 H2 => (List.map OC.arg res = List.map OC.arg res ∧ bas = backArgs as0 []) ∧ ∀ i ∈ ([] : List Nat) ++ V2, isLive H2 i) hu ⟨⟨rfl, rfl⟩, by simp⟩) fun bl hbl => hbl 0
theorem ret1 {t : Nat} {v : CV} {as0 : List Arg} {σ : Slots} {H : LH} (hu : unlent as0 = true) (h : Slots.get σ t = .c v) : topQ [(t, none, .plain)] as0 [] ⟨[.cv v], []⟩ .ret σ H := by
  refine retW_unlent hu ?_
  simp only [retVals, argsW, argW, ungW, h]
  exact ⟨rfl, rfl⟩
theorem ret2 {t t' : Nat} {v v' : CV} {as0 : List Arg} {σ : Slots} {H : LH} (hu : unlent as0 = true) (h : Slots.get σ t = .c v) (h' : Slots.get σ t' = .c v') :
    topQ [(t, none, .plain), (t', none, .plain)] as0 [] ⟨[.cv v, .cv v'], []⟩ .ret σ H := by
  refine retW_unlent hu ?_
  simp only [retVals, argsW, argW, ungW, h, h']
  exact ⟨rfl, rfl⟩
theorem ret3 {t t' t'' : Nat} {v v' v'' : CV} {as0 : List Arg} {σ : Slots} {H : LH} (hu : unlent as0 = true) (h : Slots.get σ t = .c v) (h' : Slots.get σ t' = .c v') (h'' : Slots.get σ t'' = .c v'') :
    topQ [(t, none, .plain), (t', none, .plain), (t'', none, .plain)] as0 [] ⟨[.cv v, .cv v', .cv v''], []⟩ .ret σ H := by
  refine retW_unlent hu ?_
  simp only [retVals, argsW, argW, ungW, h, h', h'']
  exact ⟨rfl, rfl⟩
def OwnAt (e : Nat) (xs : List CV) (v : AV) (H : LH) : Prop := (v = .c .nilsl ∧ xs = []) ∨ ∃ i, v = .osl i 0 xs.length ∧ LH.get H i = some (.row e xs)
theorem retO {t e : Nat} {xs : List CV} {as0 : List Arg} {σ : Slots} {H : LH} (hu : unlent as0 = true) (h : OwnAt e xs (Slots.get σ t) H) : topQ [(t, none, .move e)] as0 [] ⟨[.own e xs], []⟩ .ret σ H := by
  refine retW_unlent hu ?_
  rcases h with ⟨h1, rfl⟩ | ⟨i, h1, h2⟩
  · simp only [retVals, argsW, argW, h1]
    exact ⟨rfl, rfl⟩
  · simp only [retVals, argsW, argW, h1, h2, true_and]
    exact ⟨rfl, rfl⟩
theorem ite_and {p : Prop} [Decidable p] {b : Bool} : (if p then b else false) = (decide p && b) := by by_cases h : p <;> simp [h]
theorem ite_or {p : Prop} [Decidable p] {b : Bool} : (if p then true else b) = (decide p || b) := by by_cases h : p <;> simp [h]
theorem and_imp_l {p q : Prop} : (p ∧ q → p) = True := by simp; exact fun a _ => a
theorem and_imp_r {p q : Prop} : (p ∧ q → q) = True := by simp
attribute [go_sem] ite_and ite_or imp_self and_self and_imp_l and_imp_r Bool.decide_eq_true Bool.decide_and Bool.decide_or decide_not Bool.and_self Bool.decide_coe
theorem wrap_i64 (x : Int) : IntKind.i64.wrap x = (x + 9223372036854775808) % 18446744073709551616 - 9223372036854775808 := by
  have e : IntKind.i64.wrap x = if (x % 18446744073709551616 ≥ 9223372036854775808) then x % 18446744073709551616 - 18446744073709551616 else x % 18446744073709551616 := by
    simp [IntKind.wrap, IntKind.bits, IntKind.signed]
  rw [e]; split <;> omega
theorem wrap_i32 (x : Int) : IntKind.i32.wrap x = (x + 2147483648) % 4294967296 - 2147483648 := by
  have e : IntKind.i32.wrap x = if (x % 4294967296 ≥ 2147483648) then x % 4294967296 - 4294967296 else x % 4294967296 := by
    simp [IntKind.wrap, IntKind.bits, IntKind.signed]
  rw [e]; split <;> omega
theorem wrap_u8 (x : Int) : IntKind.u8.wrap x = x % 256 := by simp [IntKind.wrap, IntKind.bits, IntKind.signed]
theorem wrap_u32 (x : Int) : IntKind.u32.wrap x = x % 4294967296 := by simp [IntKind.wrap, IntKind.bits, IntKind.signed]
theorem wrap_u64 (x : Int) : IntKind.u64.wrap x = x % 18446744073709551616 := by simp [IntKind.wrap, IntKind.bits, IntKind.signed]
structure Rec where
  kind : Int
  lo : Int
  hi : Int
  n : Int
  to : List Int
  name : ByteArray
  other : ByteArray
  weight : Nat
def runes (l : List Int) : List CV := l.map (.int .i32)
def Rec.cv (r : Rec) : CV := .agg [.int .i64 r.kind, .int .i64 r.lo, .int .i64 r.hi, .int .i64 r.n, .sl 1 (runes r.to), .str r.name, .str r.other, .flt r.weight]
def recs (l : List Rec) : List CV := l.map Rec.cv
theorem runes_len (l : List Int) : (runes l).length = l.length := by simp [runes]
theorem recs_len (l : List Rec) : (recs l).length = l.length := by simp [recs]
attribute [go_sem] Rec.cv runes_len recs_len
theorem callK_i {P : Program} {g : Prop} {f : FuncId} {H : List (Nat × LObj)} {u : Nat} {K : AV → List (Nat × LObj) → Prop} {b : Bar K} {args : List Arg} {m : List (Nat × Option Nat)} {V : List Nat} {H' : List (Nat × LObj)} (out : Out)
    (h : g → CW P f args out) (h1 : (∀ i ∈ V, isLive H' i) ∧ (V = [] ∨ (∀ r ∈ out.res, r.scalar) ∧ ∀ b ∈ out.back, ∀ r ∈ b, r.scalar) ∧
      (freshC H u ∧ args.length ≤ 8 ∧ out.res.length ≤ 60 ∧ ∀ b ∈ out.back, b.length ≤ 15) ∧
      K (impRes u out.res) (backW u m (backArgs args out.back) 0 ++ impOb u out.res 0 ++ deadOf m)) : callK P g f H u K b args m V H' := ⟨out, h, h1⟩
theorem callK_1 {P : Program} {g : Prop} {f : FuncId} {H : List (Nat × LObj)} {u : Nat} {K : AV → List (Nat × LObj) → Prop} {b : Bar K} {args : List Arg} {H' : List (Nat × LObj)} (v : CV)
    (h : g → CW P f args ⟨[.cv v], []⟩) (hu : freshC H u) (h8 : args.length.ble 8 = true) (hun : unlent args = true) (hk : K (.c v) []) : callK P g f H u K b args [] [] H' := by
  refine ⟨_, h, by simp, .inl rfl, ⟨hu, Nat.le_of_ble_eq_true h8, by simp, by simp⟩, ?_⟩
  have e : ∀ (as0 : List Arg) (j : Nat), unlent as0 = true → backW u [] (backArgs as0 []) j = [] := by
    intro as0
    induction as0 with
    | nil => intro j _; rfl
    | cons a as0 ih =>
      intro j hu
      cases a with
      | cv v => exact ih (j + 1) hu
      | own e v => exact ih (j + 1) hu
      | mutr => cases hu
      | obj => cases hu
  simp only [e args 0 hun]
  exact hk
theorem recs_get {l : List Rec} {k : Nat} (h : k < l.length) : (recs l).getD k .undef = (l[k]).cv := by
  simp [recs, List.getD_eq_getElem?_getD, h]
theorem runes_get {l : List Int} {k : Nat} (h : k < l.length) : (runes l).getD k .undef = .int .i32 l[k] := by
  simp [runes, List.getD_eq_getElem?_getD, h]
theorem recs_at {l : List Rec} {k : Nat} (h : k < l.length) : ∃ r, (recs l).getD k .undef = r.cv ∧ r ∈ l ∧ l.drop k = r :: l.drop (k + 1) :=
  ⟨l[k], recs_get h, List.getElem_mem h, List.drop_eq_getElem_cons h⟩
theorem runes_at {l : List Int} {k : Nat} (h : k < l.length) : ∃ c, (runes l).getD k .undef = .int .i32 c ∧ c ∈ l ∧ l.drop k = c :: l.drop (k + 1) :=
  ⟨l[k], runes_get h, List.getElem_mem h, List.drop_eq_getElem_cons h⟩
attribute [go_sem] Int.toNat_natCast
theorem back_none {u : Nat} : ∀ (as0 : List Arg) (j : Nat), unlent as0 = true → backW u [] (backArgs as0 []) j = []
  | [], j, _ => rfl
  | .cv v :: as0, j, h => back_none as0 (j + 1) h
  | .own e v :: as0, j, h => back_none as0 (j + 1) h
  | .mutr _ _ :: _, _, h => by cases h
  | .obj _ :: _, _, h => by cases h
section
variable {P : Program} {g : Prop} {f : FuncId} {H : List (Nat × LObj)} {u : Nat} {K : AV → List (Nat × LObj) → Prop} {b : Bar K} {args : List Arg} {H' : List (Nat × LObj)}
theorem callK_2 (v v' : CV) (h : g → CW P f args ⟨[.cv v, .cv v'], []⟩) (hu : freshC H u) (h8 : args.length.ble 8 = true) (hun : unlent args = true) (hk : K (.tup [.c v, .c v']) []) : callK P g f H u K b args [] [] H' := by
  refine ⟨_, h, by simp, .inl rfl, ⟨hu, Nat.le_of_ble_eq_true h8, by simp, by simp⟩, ?_⟩
  simp only [back_none args 0 hun]
  exact hk
theorem callK_3 (v v' v'' : CV) (h : g → CW P f args ⟨[.cv v, .cv v', .cv v''], []⟩) (hu : freshC H u) (h8 : args.length.ble 8 = true) (hun : unlent args = true) (hk : K (.tup [.c v, .c v', .c v'']) []) : callK P g f H u K b args [] [] H' := by
  refine ⟨_, h, by simp, .inl rfl, ⟨hu, Nat.le_of_ble_eq_true h8, by simp, by simp⟩, ?_⟩
  simp only [back_none args 0 hun]
  exact hk
theorem callK_O (e : Nat) (xs : List CV) (h : g → CW P f args ⟨[.own e xs], []⟩) (hu : freshC H u) (h8 : args.length.ble 8 = true) (hun : unlent args = true) (hk : K (.osl (64 * u) 0 xs.length) [(64 * u, .row e xs)]) : callK P g f H u K b args [] [] H' := by
  refine ⟨_, h, by simp, .inl rfl, ⟨hu, Nat.le_of_ble_eq_true h8, by simp, by simp⟩, ?_⟩
  simp only [back_none args 0 hun]
  exact hk
end
theorem own_at {e i n : Nat} {xs : List CV} {v : AV} {H : LH} (h : v = .osl i 0 n) (hn : n = xs.length) (hg : LH.get H i = some (.row e xs)) : OwnAt e xs v H := .inr ⟨i, by rw [h, hn], hg⟩
theorem ba_loop (s : ByteArray) : ∀ (k i : Nat) (r : List UInt8), s.size - i = k → ByteArray.toList.loop s i r = r.reverse ++ s.data.toList.drop i := by
  have hs : s.size = s.data.toList.length := by rw [Array.length_toList]; rfl
  intro k
  induction k with
  | zero =>
    intro i r h
    have e : s.data.toList.drop i = [] := List.drop_eq_nil_of_le (by omega)
    unfold ByteArray.toList.loop
    rw [if_neg (by omega), e]; simp
  | succ k ih =>
    intro i r h
    unfold ByteArray.toList.loop
    rw [if_pos (by omega), ih (i + 1) _ (by omega)]
    have hi : i < s.data.toList.length := by omega
    rw [List.drop_eq_getElem_cons hi]
    have e : s.get! i = s.data.toList[i] := by
      have hd : i < s.data.size := by simpa using hi
      simp only [ByteArray.get!, Array.getElem_toList]; exact getElem!_pos s.data i hd
    rw [e]; simp
theorem ba_toList (s : ByteArray) : s.toList = s.data.toList := by
  unfold ByteArray.toList
  rw [ba_loop s _ 0 [] rfl]; simp
attribute [go_sem] ba_toList
def at8 (s : ByteArray) (k : Nat) : Int := (s.data.toList.getD k 0).toNat
theorem u8_at {s : ByteArray} {k : Nat} : u8 (s.data.toList.getD k 0) = .int .u8 (at8 s k) := rfl
attribute [go_sem] u8_at
theorem RowR.fz {L : Loc} {S : Nat → Nat → Prop} {w : World} {e : Nat} {xs : List CV} (h : RowR L S w e xs) {b o : Nat} (hp : pubS L e b o) : w.frozen? ⟨b, o, none⟩ = false := by
  obtain ⟨hn, rfl, h1, h2⟩ := hp
  unfold RowR at h
  rw [if_neg (by simp [hn])] at h
  have := (h.2.2.1 (o - L.off) (by omega)).2
  rw [show L.off + (o - L.off) = o by omega] at this
  exact this
theorem row_vr {L : Loc} {S : Nat → Nat → Prop} {w : World} {e : Nat} {xs : List CV} (h : RowR L S w e xs) (hn : L.isnil = false) :
    VR w (fun b o => S b o ∨ pubS L e b o) (.sl e xs) (.slice (some ⟨L.block, L.off, none⟩) xs.length L.cap) := by
  unfold RowR at h
  rw [if_neg (by simp [hn])] at h
  obtain ⟨h1, h2, h3, h4⟩ := h
  have hu : ∃ u : Nat → Nat → Value, ∀ i j, i < xs.length → j < e → w.cell? ⟨L.block, L.off + (i * e + j), none⟩ = some (u i j) ∧ VR w S ((xs.getD i .undef).cells.getD j .undef) (u i j) := by
    refine ⟨fun i j => if hh : i < xs.length ∧ j < e then (h4 i j hh.1 hh.2).choose else default, fun i j hi hj => ?_⟩
    have hh : i < xs.length ∧ j < e := ⟨hi, hj⟩
    simp only [dif_pos hh]
    exact (h4 i j hi hj).choose_spec
  obtain ⟨u, hu⟩ := hu
  exact .sl e xs _ _ _ u h1 h2 (fun i j hi hj => ⟨.inr ⟨hn, rfl, by omega, by have := grid_cap h1 hi hj; omega⟩, (hu i j hi hj).1⟩) (fun i j hi hj => (hu i j hi hj).2.mono fun b o x hs hx => ⟨.inl hs, hx⟩)
theorem argsOb_back (base : Nat) : ∀ (as0 : List Arg) (j : Nat), unlent as0 = true → argsOb base (backArgs as0 []) j = []
  | [], _, _ => rfl
  | .cv v :: as0, j, h => by simp only [backArgs, argsOb, Arg.ob, List.nil_append]; exact argsOb_back base as0 (j + 1) h
  | .own e v :: as0, j, h => by simp only [backArgs, argsOb, Arg.ob, List.nil_append]; exact argsOb_back base as0 (j + 1) h
  | .mutr _ _ :: _, _, h => by cases h
  | .obj _ :: _, _, h => by cases h
theorem osl_vr {ι : Nat → Loc} {H : LH} {S : Nat → Nat → Prop} {w : World} {i e : Nat} {xs : List CV} {v : Value} (hg : LH.get H i = some (.row e xs)) (hv : AVR ι H S w (.osl i 0 xs.length) v) (hr : RowR (ι i) S w e xs) :
    VR w (fun b o => S b o ∨ pubS (ι i) e b o) (.sl e xs) v := by
  obtain ⟨hle, hsl⟩ := oslOK_row (avr_osl hv) (.inl hg)
  unfold SliceAt at hsl
  by_cases hn : (ι i).isnil = true
  · rw [if_pos hn] at hsl
    obtain ⟨_, h0, p, rfl⟩ := hsl
    have : xs = [] := List.length_eq_zero_iff.1 h0
    subst this
    exact .slnil e p 0
  · rw [if_neg hn] at hsl
    have hn' : (ι i).isnil = false := by simpa using hn
    rcases hsl with rfl | ⟨h0, p, rfl⟩
    · have := row_vr hr hn'
      simpa using this
    · have : xs = [] := List.length_eq_zero_iff.1 h0
      subst this
      exact .slnil e p 0
theorem CW.pubRes {P : Program} {f : FuncId} {args : List Arg} {e : Nat} {xs : List CV} (hu : unlent args = true) (h : CW P f args ⟨[.own e xs], []⟩) : CW P f args ⟨[.cv (.sl e xs)], []⟩ := by
  obtain ⟨hf, hb, h⟩ := h
  refine ⟨hf, hb, fun ι S w vals hl hav hhr => ?_⟩
  refine (h ι S w vals hl hav hhr).mono fun en w' hp => ?_
  obtain ⟨v, ι', S', rfl, r1, r2, r3, r4, r5, r6, r7⟩ := hp
  have e1 : retOb args ⟨[.own e xs], []⟩ = [(retBase, .row e xs)] := by
    simp only [retOb, List.map_cons, List.map_nil, OC.arg, argsOb, Arg.ob, argsOb_back argBase args 0 hu, List.append_nil, Nat.mul_zero, Nat.add_zero]
  have e2 : retOb args ⟨[.cv (.sl e xs)], []⟩ = [] := by
    simp only [retOb, List.map_cons, List.map_nil, OC.arg, argsOb, Arg.ob, argsOb_back argBase args 0 hu, List.append_nil]
  rw [e1] at r1 r2 r4
  have hg : LH.get [(retBase, LObj.row e xs)] retBase = some (.row e xs) := by simp [LH.get]
  have hrow := r2.row _ _ _ hg
  refine ⟨v, ι', fun b o => S' b o ∨ pubS (ι' retBase) e b o, rfl, ?_, ?_, r3, ?_, fun b _ hb => .inl (r5 b hb), fun b o hb => ?_, r7⟩
  · rw [e2]
    exact .c _ _ (osl_vr hg r1 hrow)
  · rw [e2]
    refine ⟨fun id cs h => (by cases h), fun id e xs h => (by cases h), fun id e xs h => (by cases h), fun i j hi => (by cases hi), fun i hi => (by cases hi), fun i hi => (by cases hi), fun b o hb => ?_⟩
    rcases hb with hb | ⟨hn, rfl, -, -⟩
    · exact r2.slt b hb
    · exact r2.lt retBase (by unfold Owned; rw [hg]; exact hn)
  · intro id hid
    rw [e2] at hid
    cases hid
  · rcases hb with hb | hb
    · exact r6 b hb
    · have hz := hrow.fz hb
      obtain ⟨hn, rfl, -, -⟩ := hb
      exact .inr ⟨r4 retBase (by unfold Owned; rw [hg]; exact hn), hz⟩
theorem callK_V {P : Program} {g : Prop} {f : FuncId} {H : List (Nat × LObj)} {u : Nat} {K : AV → List (Nat × LObj) → Prop} {b : Bar K} {args : List Arg} {V : List Nat} {H' : List (Nat × LObj)} (v : CV)
    (h : g → CW P f args ⟨[.cv v], []⟩) (hV : ∀ i ∈ V, isLive H' i) (hs : v.scalar = true) (hu : freshC H u) (h8 : args.length.ble 8 = true) (hun : unlent args = true) (hk : K (.c v) []) : callK P g f H u K b args [] V H' := by
  refine ⟨_, h, hV, .inr ⟨by simp [OC.scalar, hs], by simp⟩, ⟨hu, Nat.le_of_ble_eq_true h8, by simp, by simp⟩, ?_⟩
  simp only [back_none args 0 hun]
  exact hk
theorem retO3 {t t' t'' e : Nat} {xs : List CV} {v v' : CV} {as0 : List Arg} {σ : Slots} {H : LH} (hu : unlent as0 = true) (h : OwnAt e xs (Slots.get σ t) H) (h' : Slots.get σ t' = .c v) (h'' : Slots.get σ t'' = .c v') :
    topQ [(t, none, .move e), (t', none, .plain), (t'', none, .plain)] as0 [] ⟨[.own e xs, .cv v, .cv v'], []⟩ .ret σ H := by
  refine retW_unlent hu ?_
  rcases h with ⟨h1, rfl⟩ | ⟨i, h1, h2⟩
  · simp only [retVals, argsW, argW, h1, h', h'', ungW]
    exact ⟨rfl, rfl⟩
  · simp only [retVals, argsW, argW, h1, h2, true_and, h', h'', ungW]
    exact ⟨rfl, rfl⟩
variable {C : Ctx} {ι ι' : Nat → Loc} {S S' : Nat → Nat → Prop} {σ σ' : Slots} {H H' : LH} {a a' : Act} {w w' : World}
def OwnB (ι : Nat → Loc) (H : LH) (b : Nat) : Prop := ∃ id, Owned ι H id ∧ (ι id).block = b
def Hid (ι : Nat → Loc) (S : Nat → Nat → Prop) (H : LH) (w : World) (b : Nat) : Prop := b < w.heap.size ∧ (∀ {o}, ¬ S b o) ∧ ¬ OwnB ι H b
def Ctx.now (C : Ctx) (w : World) (ι : Nat → Loc) (S : Nat → Nat → Prop) (H : LH) : Ctx := ⟨w, OwnB ι H, S, ι, C.n, C.ds⟩
theorem R.rebase (h : R C ι S σ H a w) : R (C.now w ι S H) ι S σ H a w :=
  ⟨Fr.refl _ _, h.hr, h.sl, fun id ho => .inl ⟨id, ho, rfl⟩, fun b _ hb => .inl hb, fun b _ hb => hb, fun _ _ _ _ _ => rfl, h.size, h.defs⟩
structure Base (C : Ctx) (ι : Nat → Loc) (S : Nat → Nat → Prop) (H : LH) (w : World) : Prop where
  fr : Fr C.O C.w0 w
  sub : ∀ b {o}, C.S0 b o → S b o
  sup : ∀ b {o}, S b o → C.S0 b o ∨ (C.O b ∨ C.w0.heap.size ≤ b) ∧ w.frozen? ⟨b, o, none⟩ = false
  own : ∀ b, OwnB ι H b → C.O b ∨ C.w0.heap.size ≤ b
  dis : ∀ b {o}, S b o → b < w.heap.size ∧ ¬ OwnB ι H b
theorem R.base (h : R C ι S σ H a w) : Base C ι S H w := ⟨h.fr, h.sub, h.sup, fun b ⟨id, ho, e⟩ => e ▸ h.own id ho, fun b _ hs => ⟨h.hr.slt b hs, fun ⟨id, ho, e⟩ => h.hr.disj id ho (e ▸ hs)⟩⟩
theorem R.unbase (hb : Base C ι S H w) (h : R (C.now w ι S H) ι' S' σ' H' a' w') (hl : ∀ id ob, argBase ≤ id → LH.get H' id = some ob → ¬ ob.own) : R C ι' S' σ' H' a' w' := by
  refine ⟨⟨h.fr.os.trans hb.fr.os, h.fr.tape.trans hb.fr.tape, h.fr.output.trans hb.fr.output, Nat.le_trans hb.fr.size h.fr.size, fun k hk hO => ?_⟩, h.hr, h.sl, fun id ho => ?_, fun b o hS => ?_, fun b _ hS => h.sub b (hb.sub b hS), fun id ob hg ho hge => absurd ho (hl id ob hge hg), h.size, h.defs⟩
  · rw [h.fr.block k (Nat.lt_of_lt_of_le hk hb.fr.size) (fun ho => (hb.own k ho).elim hO (fun hge => by omega))]
    exact hb.fr.block k hk hO
  · rcases h.own id ho with ho | ho
    · exact hb.own _ ho
    · exact .inr (Nat.le_trans hb.fr.size ho)
  · rcases h.sup b hS with hS | ⟨hS | hS, hz⟩
    · exact (hb.sup b hS).imp id (And.imp id fun f => by rw [frozen_block (h.fr.block b (hb.dis b hS).1 (hb.dis b hS).2)]; exact f)
    · exact .inr ⟨hb.own b hS, hz⟩
    · exact .inr ⟨.inr (Nat.le_trans hb.fr.size hS), hz⟩
theorem Hid.step {b : Nat} (hb : Hid ι S H w b) (h : R (C.now w ι S H) ι' S' σ' H' a' w') : Hid ι' S' H' w' b ∧ w'.heap[b]? = w.heap[b]? := by
  refine ⟨⟨Nat.lt_of_lt_of_le hb.1 h.fr.size, fun hS => ?_, fun ⟨id, ho, e⟩ => ?_⟩, h.fr.block b hb.1 hb.2.2⟩
  · rcases h.sup b hS with hS | ⟨hS | hS, -⟩
    · exact hb.2.1 hS
    · exact hb.2.2 hS
    · exact absurd hb.1 (Nat.not_lt.2 hS)
  · subst e
    rcases h.own id ho with ho | ho
    · exact hb.2.2 ho
    · exact absurd hb.1 (Nat.not_lt.2 ho)
theorem R.keep {l : List (Nat × AV)} (h : R C ι S σ H a w) (hl : ∀ p ∈ l, ∃ v, p.2 = .c v ∧ Slots.get σ p.1 = .c v) : R C ι S l [] a w := by
  have nope : ∀ id, ¬ Owned ι [] id := fun id ho => by unfold Owned at ho; simp [LH.get] at ho
  refine ⟨h.fr, ⟨fun id cs hg => by simp [LH.get] at hg, fun id e xs hg => by simp [LH.get] at hg, fun id e xs hg => by simp [LH.get] at hg, fun i j hi => absurd hi (nope _), fun i hi => absurd hi (nope _), fun i hi => absurd hi (nope _), h.hr.slt⟩, fun t => ?_, fun id ho => absurd ho (nope _), h.sup, h.sub, fun id ob hg => by simp [LH.get] at hg, h.size, h.defs⟩
  have : ∀ l : List (Nat × AV), (∀ p ∈ l, ∃ v, p.2 = .c v ∧ Slots.get σ p.1 = .c v) → AVR ι [] S w (Slots.get l t) (a.tmps.getD t Go.undef) := by
    intro l
    induction l with
    | nil => intro _; exact AVR.undef _
    | cons p l ih =>
      intro hl
      obtain ⟨k, v⟩ := p
      by_cases e : k = t
      · obtain ⟨x, h1, h2⟩ := hl (k, v) (by simp)
        have hs := h.sl t
        simp only at h1 h2
        rw [e] at h2
        rw [h2] at hs
        simp only [Slots.get, if_pos e, h1]
        exact .c _ _ (avr_c hs)
      · simp only [Slots.get, if_neg e]
        exact ih fun p hp => hl p (by simp [hp])
  exact this l hl
theorem R.hid (h : R C ι S σ H a w) {m : Nat} (hm : Hid ι S H w m) (hC : C.w0.heap.size ≤ m) (X : Obj) : R C ι S σ H a { w with heap := w.heap.setIfInBounds m X } := by
  have hb : ∀ b : Nat, b ≠ m → (w.heap.setIfInBounds m X)[b]? = w.heap[b]? := fun b hb => by rw [Array.getElem?_setIfInBounds_ne (Ne.symm hb)]
  refine h.upd ⟨h.fr.os, h.fr.tape, h.fr.output, by simpa using h.fr.size, fun k hk hO => ?_⟩
    (fun i o e => ⟨o, e, Kept.refl _ _ _⟩) (fun b o x hs hx => ⟨hs, ?_⟩) (fun _ _ h => h)
    (fun i => .inl ⟨rfl, rfl, fun ho => ?_⟩) h.hr.inj h.hr.disj (fun i hi => by simpa using h.hr.lt i hi) (fun b _ hb => by simpa using h.hr.slt b hb) h.own (h.sup' fun b _ hs => hb b (fun e => hm.2.1 (e ▸ hs))) h.loc
  · show (w.heap.setIfInBounds m X)[k]? = _
    rw [hb k (by omega)]; exact h.fr.block k hk hO
  · rw [cell_block (w := w) (show (w.heap.setIfInBounds m X)[b]? = w.heap[b]? from hb b (fun e => hm.2.1 (e ▸ hs)))]; exact hx
  · exact hb _ (fun e => hm.2.2 ⟨i, ho, e⟩)
theorem Hid.hid {m b : Nat} (hb : Hid ι S H w b) (X : Obj) : Hid ι S H { w with heap := w.heap.setIfInBounds m X } b := ⟨by simpa using hb.1, hb.2.1, hb.2.2⟩
theorem R.newhid (h : R C ι S σ H a w) (X : Obj) : R C ι S σ H a (w.alloc X) ∧ Hid ι S H (w.alloc X) w.heap.size := by
  have hb : ∀ b : Nat, b < w.heap.size → (w.alloc X).heap[b]? = w.heap[b]? := fun b hb => by
    show (w.heap.push X)[b]? = _
    rw [Array.getElem?_push, if_neg (by omega)]
  have hsz : (w.alloc X).heap.size = w.heap.size + 1 := by show (w.heap.push X).size = _; simp
  refine ⟨h.upd ⟨h.fr.os, h.fr.tape, h.fr.output, by rw [hsz]; exact Nat.le_succ_of_le h.fr.size, fun k hk hO => ?_⟩
    (fun i o e => ⟨o, e, Kept.refl _ _ _⟩) (fun b o x hs hx => ⟨hs, ?_⟩) (fun _ _ h => h)
    (fun i => .inl ⟨rfl, rfl, fun ho => hb _ (h.hr.lt i ho)⟩) h.hr.inj h.hr.disj (fun i hi => by rw [hsz]; exact Nat.lt_succ_of_lt (h.hr.lt i hi)) (fun b _ hb => by rw [hsz]; exact Nat.lt_succ_of_lt (h.hr.slt b hb)) h.own (h.sup' fun b _ hs => hb b (h.hr.slt b hs)) h.loc,
    by rw [hsz]; omega, fun {o} hS => ?_, fun ⟨id, ho, e⟩ => ?_⟩
  · rw [hb k (Nat.lt_of_lt_of_le hk h.fr.size)]; exact h.fr.block k hk hO
  · rw [cell_block (w := w) (hb b (h.hr.slt b hs))]; exact hx
  · have := h.hr.slt _ hS; omega
  · have := h.hr.lt id ho; omega
theorem R.adopt (h : R C ι S σ H a w) {id e : Nat} {xs : List CV} {L : Loc} (hn : LH.get H id = none) (hrow : RowR L S w e xs) (hh : L.isnil = false → Hid ι S H w L.block) :
    R (C.now w (updL ι id L) S (LH.set H id (.row e xs))) (updL ι id L) S σ (LH.set H id (.row e xs)) a w := by
  have ho1 : ∀ j, j ≠ id → Owned (updL ι id L) (LH.set H id (.row e xs)) j → Owned ι H j := fun j hj hw => hw.of_eq (by rw [LH.get_set, if_neg hj]) (updL_ne ι L hj)
  have hoi : Owned (updL ι id L) (LH.set H id (.row e xs)) id → L.isnil = false := fun hw => by
    unfold Owned at hw
    rw [LH.get_set, if_pos rfl, updL_same] at hw
    exact hw
  have hr : HR (updL ι id L) S (LH.set H id (.row e xs)) w := by
    refine h.hr.upd (fun i o hg => ⟨o, ?_, ?_⟩) (fun b o x hs hx => ⟨hs, hx⟩) (fun i => ?_) (fun i j hi hj he => ?_) (fun i hi {o} => ?_) (fun i hi => ?_) h.hr.slt
    · have : i ≠ id := fun e => by subst e; rw [hn] at hg; cases hg
      rw [LH.get_set, if_neg this]; exact hg
    · have : i ≠ id := fun e => by subst e; rw [hn] at hg; cases hg
      have hu := updL_ne ι L this
      cases o <;> simp [Kept, hu]
    · by_cases hi : i = id
      · subst hi
        right
        unfold NewAt
        rw [LH.get_set, if_pos rfl, updL_same]
        exact hrow
      · left
        exact ⟨by rw [LH.get_set, if_neg hi], updL_ne ι L hi, fun _ => rfl⟩
    · by_cases h1 : i = id <;> by_cases h2 : j = id
      · rw [h1, h2]
      · subst h1
        have hL := hoi hi
        rw [updL_same, updL_ne ι L h2] at he
        exact absurd ⟨j, ho1 j h2 hj, he.symm⟩ (hh hL).2.2
      · subst h2
        have hL := hoi hj
        rw [updL_same, updL_ne ι L h1] at he
        exact absurd ⟨i, ho1 i h1 hi, he⟩ (hh hL).2.2
      · rw [updL_ne ι L h1, updL_ne ι L h2] at he
        exact h.hr.inj i j (ho1 i h1 hi) (ho1 j h2 hj) he
    · by_cases h1 : i = id
      · subst h1; rw [updL_same]; exact (hh (hoi hi)).2.1
      · rw [updL_ne ι L h1]; exact h.hr.disj i (ho1 i h1 hi)
    · by_cases h1 : i = id
      · subst h1; rw [updL_same]; exact (hh (hoi hi)).1
      · rw [updL_ne ι L h1]; exact h.hr.lt i (ho1 i h1 hi)
  refine ⟨Fr.refl _ _, hr, fun t => (h.sl t).mono (fun b o x hs hx => ⟨hs, hx⟩) (fun i o hg => ⟨o, ?_, ?_⟩), fun i ho => .inl ⟨i, ho, rfl⟩, fun b _ hb => .inl hb, fun b _ hb => hb, fun _ _ _ _ _ => rfl, h.size, h.defs⟩
  · have : i ≠ id := fun e => by subst e; rw [hn] at hg; cases hg
    rw [LH.get_set, if_neg this]; exact hg
  · have : i ≠ id := fun e => by subst e; rw [hn] at hg; cases hg
    have hu := updL_ne ι L this
    cases o <;> simp [Kept, hu]
theorem OwnB.adopt {id e : Nat} {xs : List CV} {L : Loc} {b : Nat} (h : OwnB (updL ι id L) (LH.set H id (.row e xs)) b) : OwnB ι H b ∨ (L.isnil = false ∧ L.block = b) := by
  obtain ⟨j, ho, hb⟩ := h
  by_cases h1 : j = id
  · subst h1
    unfold Owned at ho
    rw [LH.get_set, if_pos rfl, updL_same] at ho
    rw [updL_same] at hb
    exact .inr ⟨ho, hb⟩
  · rw [updL_ne ι L h1] at hb
    exact .inl ⟨j, ho.of_eq (by rw [LH.get_set, if_neg h1]) (updL_ne ι L h1), hb⟩
noncomputable def findL (k : Value) : List MapEntry → Nat → Option (Nat × Value)
  | [], _ => none
  | e :: es, i => open Classical in if e.key = k then some (i, e.val) else findL k es (i + 1)
noncomputable def lkL (z : Value) (es : List MapEntry) (k : Value) : Value := match findL k es 0 with | some (_, v) => v | none => z
structure Keys (P : Program) (kt : TypeId) (K : Value → Prop) : Prop where
  check : ∀ em k w, K k → (Instr.checkKey em 10000 kt k).run P w = .ok () w
  find : ∀ k es w, K k → (∀ e ∈ es, K e.key) → (Instr.findKey kt k es).run P w = .ok (findL k es 0) w
  stay : ∀ k w, K k → (Instr.keyThatStays k k).run P w = .ok k w
theorem findL_shift (k : Value) : ∀ (es : List MapEntry) (i : Nat), findL k es i = (findL k es 0).map fun p => (p.1 + i, p.2)
  | [], _ => rfl
  | e :: es, i => by
    unfold findL
    split
    · simp
    · rw [findL_shift k es (i + 1), findL_shift k es (0 + 1)]
      cases findL k es 0 <;> simp [Nat.add_comm, Nat.add_left_comm]
theorem findL_some {k : Value} : ∀ {es : List MapEntry} {j : Nat} {v : Value}, findL k es 0 = some (j, v) → ∃ e, es[j]? = some e ∧ e.key = k ∧ e.val = v ∧ ∀ i, i < j → ∀ e', es[i]? = some e' → e'.key ≠ k
  | [], _, _, h => by simp [findL] at h
  | e :: es, j, v, h => by
    unfold findL at h
    by_cases hk : e.key = k
    · rw [if_pos hk] at h
      injection h with h; injection h with h1 h2
      subst h1
      exact ⟨e, rfl, hk, h2, fun i hi => by omega⟩
    · rw [if_neg hk, findL_shift] at h
      cases hf : findL k es 0 with
      | none => rw [hf] at h; cases h
      | some p =>
        obtain ⟨j', v'⟩ := p
        rw [hf] at h
        simp only [Option.map_some] at h
        injection h with h; injection h with h1 h2
        subst h1 h2
        obtain ⟨e', h1, h2, h3, h4⟩ := findL_some hf
        refine ⟨e', by simpa using h1, h2, h3, fun i hi e'' he => ?_⟩
        match i with
        | 0 => simp at he; subst he; exact hk
        | i + 1 => exact h4 i (by omega) e'' (by simpa using he)
theorem findL_set {k : Value} {z v : Value} (k' : Value) : ∀ (es : List MapEntry) (j : Nat) (x : Value), findL k es 0 = some (j, x) →
    lkL z (es.modify j fun e => { e with key := k, val := v }) k' = open Classical in if k' = k then v else lkL z es k'
  | [], _, _, h => by simp [findL] at h
  | e :: es, j, x, h => by
    have h0 := h
    unfold findL at h
    by_cases hk : e.key = k
    · rw [if_pos hk] at h
      injection h with h; injection h with h1 h2
      subst h1
      simp only [List.modify_zero_cons, lkL, findL]
      by_cases hk' : k' = k
      · rw [if_pos hk'.symm, if_pos hk']
      · rw [if_neg (Ne.symm hk'), if_neg hk', if_neg (by rw [hk]; exact Ne.symm hk')]
    · rw [if_neg hk, findL_shift] at h
      cases hf : findL k es 0 with
      | none => rw [hf] at h; cases h
      | some p =>
        obtain ⟨j', v'⟩ := p
        rw [hf] at h
        simp only [Option.map_some] at h
        injection h with h; injection h with h1 h2
        subst h1
        have ih := findL_set (z := z) (v := v) k' es j' v' hf
        rw [show j' + (0 + 1) = j' + 1 from rfl, List.modify_succ_cons]
        unfold lkL at ih ⊢
        unfold findL
        by_cases hk' : e.key = k'
        · rw [if_pos hk', if_pos hk', if_neg (by rw [← hk']; exact hk)]
        · rw [if_neg hk', if_neg hk']
          rw [findL_shift k' _ (0 + 1), findL_shift k' es (0 + 1)]
          revert ih
          cases findL k' (es.modify j' fun e => { e with key := k, val := v }) 0 <;> cases findL k' es 0 <;> exact fun ih => ih
theorem findL_push {k : Value} {z v : Value} {b : Nat} (k' : Value) : ∀ (es : List MapEntry), findL k es 0 = none →
    lkL z (es ++ [⟨k, v, b⟩]) k' = open Classical in if k' = k then v else lkL z es k'
  | [], h => by
    simp only [List.nil_append, lkL, findL]
    by_cases hk' : k' = k
    · rw [if_pos hk'.symm, if_pos hk']
    · rw [if_neg (Ne.symm hk'), if_neg hk']
  | e :: es, h => by
    unfold findL at h
    by_cases hk : e.key = k
    · rw [if_pos hk] at h; cases h
    · rw [if_neg hk, findL_shift] at h
      have hf : findL k es 0 = none := by
        cases hf : findL k es 0 with
        | none => rfl
        | some p => rw [hf] at h; cases h
      have ih := findL_push (z := z) (v := v) (b := b) k' es hf
      unfold lkL at ih ⊢
      rw [List.cons_append]
      unfold findL
      by_cases hk' : e.key = k'
      · rw [if_pos hk', if_pos hk', if_neg (by rw [← hk']; exact hk)]
      · rw [if_neg hk', if_neg hk']
        rw [findL_shift k' _ (0 + 1), findL_shift k' es (0 + 1)]
        revert ih
        cases findL k' (es ++ [⟨k, v, b⟩]) 0 <;> cases findL k' es 0 <;> exact fun ih => ih
def MapAt (w : World) (m : Nat) (K : Value → Prop) (z : Value) (g : Value → Value) : Prop :=
  ∃ es clock, w.heap[m]? = some (.map es clock) ∧ (∀ e ∈ es.toList, K e.key) ∧ ∀ k, lkL z es.toList k = g k
theorem MapAt.new (w : World) (K : Value → Prop) (z : Value) : MapAt (w.alloc (.map #[] 0)) w.heap.size K z fun _ => z :=
  ⟨#[], 0, by show (w.heap.push _)[w.heap.size]? = _; simp, by simp, fun k => rfl⟩
theorem MapAt.same {m : Nat} {K : Value → Prop} {z : Value} {g : Value → Value} (h : MapAt w m K z g) (e : w'.heap[m]? = w.heap[m]?) : MapAt w' m K z g := by
  obtain ⟨es, c, h1, h2⟩ := h
  exact ⟨es, c, by rw [e]; exact h1, h2⟩
theorem MapAt.look {P : Program} {mt kt et m : Nat} {K : Value → Prop} {z : Value} {g : Value → Value} (h : MapAt w m K z g) (hm : P.underlying mt = some (.map kt et)) (hK : Keys P kt K) (hz : (zeroValue et).run P w = .ok z w) {k : Value} (hk : K k) :
    (Instr.lookup mt (.map (some m)) k false).run P w = .ok (g k) w := by
  obtain ⟨es, c, h1, h2, h3⟩ := h
  have hf := hK.find k es.toList w hk h2
  have hg := h3 k
  unfold lkL at hg
  cases hx : findL k es.toList 0 with
  | none =>
    rw [hx] at hf hg
    simp only at hg
    subst hg
    simp [Instr.lookup, run_underlying hm, MapKept.run_getObj_map h1, hK.check _ _ _ hk, hf, hz, Result.andThen]
  | some p =>
    obtain ⟨j, v⟩ := p
    rw [hx] at hf hg
    simp only at hg
    subst hg
    simp [Instr.lookup, run_underlying hm, MapKept.run_getObj_map h1, hK.check _ _ _ hk, hf, Result.andThen]
theorem MapAt.put {P : Program} {mt kt et m : Nat} {K : Value → Prop} {z : Value} {g : Value → Value} (h : MapAt w m K z g) (hm : P.underlying mt = some (.map kt et)) (hK : Keys P kt K) {k : Value} (hk : K k) (v : Value) :
    ∃ X, (Instr.mapUpdate mt (.map (some m)) k v).run P w = .ok () { w with heap := w.heap.setIfInBounds m X } ∧ MapAt { w with heap := w.heap.setIfInBounds m X } m K z (fun k' => open Classical in if k' = k then v else g k') := by
  obtain ⟨es, c, h1, h2, h3⟩ := h
  have hf := hK.find k es.toList w hk h2
  have hlt : m < w.heap.size := (Array.getElem?_eq_some_iff.1 h1).1
  cases hx : findL k es.toList 0 with
  | none =>
    rw [hx] at hf
    refine ⟨.map (es.push ⟨k, v, c⟩) (c + 1), ?_, es.push ⟨k, v, c⟩, c + 1, ?_, fun e he => ?_, fun k' => ?_⟩
    · simp [Instr.mapUpdate, run_underlying hm, MapKept.run_getObj_map h1, hK.check _ _ _ hk, hf, MapKept.run_setObj_map _ h1, Result.andThen]
    · show (w.heap.setIfInBounds m _)[m]? = _
      rw [Array.getElem?_setIfInBounds_self_of_lt hlt]
    · simp only [Array.toList_push, List.mem_append, List.mem_singleton] at he
      rcases he with he | rfl
      · exact h2 e he
      · exact hk
    · rw [Array.toList_push, findL_push k' _ hx, h3]
  | some p =>
    obtain ⟨j, x⟩ := p
    rw [hx] at hf
    obtain ⟨e, he, hek, hev, _⟩ := findL_some hx
    have he' : es[j]? = some e := by rw [← Array.getElem?_toList]; exact he
    refine ⟨.map (es.modify j fun e => { e with key := k, val := v }) c, ?_, es.modify j fun e => { e with key := k, val := v }, c, ?_, fun e he => ?_, fun k' => ?_⟩
    · simp [Instr.mapUpdate, run_underlying hm, MapKept.run_getObj_map h1, hK.check _ _ _ hk, hf, he', hek, hK.stay _ _ hk, MapKept.run_setObj_map _ h1, Result.andThen]
    · show (w.heap.setIfInBounds m _)[m]? = _
      rw [Array.getElem?_setIfInBounds_self_of_lt hlt]
    · obtain ⟨i, hi⟩ := List.mem_iff_getElem?.1 he
      rw [Array.getElem?_toList, Array.getElem?_modify] at hi
      by_cases hij : j = i
      · rw [if_pos hij] at hi
        obtain ⟨y, hy1, hy2⟩ := Option.map_eq_some_iff.1 hi
        subst hy2
        exact hk
      · rw [if_neg hij] at hi
        exact h2 e (Array.mem_toList_iff.2 (Array.mem_of_getElem? hi))
    · rw [Array.toList_modify, findL_set k' _ j x hx, h3]
theorem keys_int {P : Program} {kt : TypeId} {q : IntKind} (hu : P.underlying kt = some (.int q)) : Keys P kt (fun k => ∃ n, k = .int q n) where
  check := fun em k w ⟨n, hk⟩ => by subst hk; exact MapKept.run_checkKey hu (by simp [MapKept.IsKey]) em 9999
  find := fun k es w ⟨n, hk⟩ he => by
    subst hk
    have : ∀ (es : List MapEntry) (i : Nat), (∀ e ∈ es, ∃ n, e.key = .int q n) → Instr.findNow (.int q) (.int q n) es i = some (findL (.int q n) es i) := by
      intro es
      induction es with
      | nil => intro i _; rfl
      | cons e es ih =>
        intro i he
        obtain ⟨n', hn'⟩ := he e (by simp)
        unfold Instr.findNow findL
        by_cases hnn : n = n'
        · subst hnn
          simp [Instr.sameNow, hn']
        · have h1 : ¬ (Value.int q n' = Value.int q n) := fun h => by injection h with _ h; exact hnn h.symm
          rw [hn', if_neg h1, ← ih (i + 1) fun e he' => he e (by simp [he'])]
          have : (n == n') = false := by simpa using hnn
          simp [Instr.sameNow, this]
    simp [Instr.findKey, run_underlying hu, this es 0 he, Result.andThen]
  stay := fun k w ⟨n, hk⟩ => by subst hk; exact MapKept.run_keyThatStays (d := .int q) (by simp [MapKept.IsKey])
def Has (σ : Slots) : List (Nat × AV) → Prop
  | [] => True
  | (t, v) :: l => Slots.get σ t = v ∧ Has σ l
theorem R.weak {l : List (Nat × AV)} (h : R C ι S σ H a w) (hl : Has σ l) : R C ι S l H a w := by
  refine ⟨h.fr, h.hr, fun t => ?_, h.own, h.sup, h.sub, h.loc, h.size, h.defs⟩
  induction l with
  | nil => exact AVR.undef _
  | cons p l ih =>
    obtain ⟨k, v⟩ := p
    by_cases e : k = t
    · subst e
      have := h.sl k
      rw [hl.1] at this
      simpa only [Slots.get, if_pos] using this
    · simp only [Slots.get, if_neg e]
      exact ih hl.2
theorem R.drop {l : List (Nat × CV)} (h : R C ι S σ H a w) (hl : Has σ (l.map fun p => (p.1, .c p.2))) : R C ι S (l.map fun p => (p.1, .c p.2)) [] a w := by
  refine h.keep fun p hp => ?_
  induction l with
  | nil => cases hp
  | cons q l ih =>
    rcases List.mem_cons.1 hp with rfl | hp
    · exact ⟨q.2, rfl, hl.1⟩
    · exact ih hl.2 hp
section
variable {P : Program} {Q : Exit → Act → World → Prop} {ops : Array Oper} {rest : List Oper} {o : Oper}
theorem op_val {v : Value} (hg : o.guard = none) (hr : (execOp a.eval o).run P w = .ok (.value v) w') (h : wpList P ops Q rest (a.put o.dst v) w') : wpList P ops Q (o :: rest) a w := by
  have hw : ∀ ys, Region.wanted o ys = true := fun ys => by simp [Region.wanted, hg]
  unfold wpList
  rw [if_pos (hw _)]
  left
  unfold Oper.wp
  rw [hr, Oper.upon_value]
  exact h
theorem op_skip (hg : o.guard = none) (hd : o.dst = none) (hr : (execOp a.eval o).run P w = .ok .skip w') (h : wpList P ops Q rest a w') : wpList P ops Q (o :: rest) a w := by
  have hw : ∀ ys, Region.wanted o ys = true := fun ys => by simp [Region.wanted, hg]
  unfold wpList
  rw [if_pos (hw _)]
  left
  unfold Oper.wp
  rw [hr, Oper.upon_skip, hd]
  exact h
theorem ex_look {mt : TypeId} {x y : Nat} {v : Value} (ho : o.op = .lookup mt (.tmp x) (.tmp y) false) (hr : (Instr.lookup mt (a.tmps.getD x Go.undef) (a.tmps.getD y Go.undef) false).run P w = .ok v w) : (execOp a.eval o).run P w = .ok (.value v) w := by
  unfold execOp
  simp only [ho, Sem.run_bind]
  show ((Instr.lookup mt (a.tmps.getD x Go.undef) (a.tmps.getD y Go.undef) false).run P w).andThen _ = _
  rw [hr]
  rfl
theorem ex_map {mt : TypeId} (ho : o.op = .makeMap mt none) : (execOp a.eval o).run P w = .ok (.value (.map (some w.heap.size))) (w.alloc (.map #[] 0)) := by
  unfold execOp
  simp only [ho, Sem.run_bind]
  rfl
theorem ex_put {mt : TypeId} {x y : Nat} {z : Operand} (ho : o.op = .mapUpdate mt (.tmp x) (.tmp y) z) (hr : (Instr.mapUpdate mt (a.tmps.getD x Go.undef) (a.tmps.getD y Go.undef) (a.eval z)).run P w = .ok () w') : (execOp a.eval o).run P w = .ok .skip w' := by
  unfold execOp
  simp only [ho, Sem.run_bind]
  show ((Instr.mapUpdate mt (a.tmps.getD x Go.undef) (a.tmps.getD y Go.undef) (a.eval z)).run P w).andThen _ = _
  rw [hr]
  rfl
theorem CW.hand {f : FuncId} {fn : Func} {c : Code} {args : List Arg} {out : Out} (rs : List (Nat × Option Nat × Mode)) (mss : List (List (Option Nat)))
    (hf : P.funcs[f]? = some fn) (hb : fn.body = some c) (hisf : isFn P f = true) (hret : chkRet P fn.results.toList rs = true) (hn : args.length ≤ fn.ntmps) (h8 : args.length ≤ 8) (hbo : backOK args out.back)
    (hw : ∀ (C : Ctx) (ι : Nat → Loc) (S : Nat → Nat → Prop) (a : Act) (w : World), C.n = fn.ntmps → C.O = Handed ι (argsOb argBase args 0) → R C ι S (slotsOf (argsAV argBase args 0) 0) (argsOb argBase args 0) a w →
      c.wp P (fun e a' w' => (e = .normal ∨ e = .ret) ∧ ∃ ι' S' σ' H', R C ι' S' σ' H' a' w' ∧ retW σ' H' rs args mss out) a w) : CW P f args out := by
  refine ⟨hisf, hbo, fun ι S w vals hvl hva hhr => ?_⟩
  refine calls_of_wp hf hb ?_
  have hR := start_R (fn := fn) hn hvl hva hhr
  refine Code.wp_mono (fun e a1 w1 hq => ?_) (hw ⟨w, Handed ι (argsOb argBase args 0), S, ι, fn.ntmps, []⟩ ι S _ w rfl rfl hR)
  obtain ⟨he, ι1, S1, σ1, H1, h1, hrw⟩ := hq
  have fin := And.intro h1.defs (fin_sound (C := ⟨w, Handed ι (argsOb argBase args 0), S, ι, fn.ntmps, []⟩) rfl hret h8 trivial hbo h1 hrw)
  rcases he with rfl | rfl
  · exact fin
  · exact fin
end
end Go.Proofs.Ytcpdnpaedkcebaa.V
namespace Go.Proofs.Ytcpdnpaedkcebaa.V
open Go Go.RowKit
set_option linter.unusedVariables false
set_option linter.unusedSimpArgs false
set_option maxRecDepth 100000
def noRec : Rec := ⟨0, 0, 0, 0, [], ⟨#[]⟩, ⟨#[]⟩, 0⟩
def recV (r : Rec) (v : Option Addr × Nat × Nat) : CV :=
  .agg [.int .i64 r.kind, .int .i64 r.lo, .int .i64 r.hi, .int .i64 r.n, .rsl v.1 v.2.1 v.2.2, .str r.name, .str r.other, .flt r.weight]
theorem vr_slice {w : World} {S : Nat → Nat → Prop} {e : Nat} {xs : List CV} {u : Value} (h : VR w S (.sl e xs) u) : ∃ p c, u = .slice p xs.length c := by
  cases h with
  | slnil sz p c => exact ⟨p, c, rfl⟩
  | sl sz xs b o cap us h1 h2 h3 h4 => exact ⟨_, _, rfl⟩
theorem recV_wf (r : Rec) (v : Option Addr × Nat × Nat) : (recV r v).wf 8 := by
  refine ⟨rfl, fun c hc => ?_⟩
  simp only [recV, CV.cells, List.mem_cons, List.not_mem_nil, or_false] at hc
  rcases hc with h | h | h | h | h | h | h | h <;> subst h <;> rfl
theorem row_rsl {L : Loc} {S S0 : Nat → Nat → Prop} {w : World} {l : List Rec} (h : RowR L S w 8 (recs l)) : ∃ f : Nat → Option Addr × Nat × Nat,
    RowR L S0 w 8 ((List.range l.length).map fun i => recV (l.getD i noRec) (f i)) ∧
    ∀ i (hi : i < l.length), VR w S (.sl 1 (runes l[i].to)) (.slice (f i).1 (f i).2.1 (f i).2.2) ∧ (f i).2.1 = l[i].to.length := by
  unfold RowR at h
  by_cases hn : L.isnil = true
  · rw [if_pos hn] at h
    have hl : l = [] := List.length_eq_zero_iff.1 (by have := congrArg List.length h; rw [recs_len] at this; exact this)
    subst hl
    exact ⟨fun _ => (none, 0, 0), by unfold RowR; rw [if_pos hn]; rfl, fun i hi => by simp at hi⟩
  rw [if_neg hn, recs_len] at h
  obtain ⟨h1, h2, h3, h4⟩ := h
  have key : ∀ i, ∃ v : Option Addr × Nat × Nat, ∀ hi : i < l.length, w.cell? ⟨L.block, L.off + (i * 8 + 4), none⟩ = some (.slice v.1 v.2.1 v.2.2) ∧ VR w S (.sl 1 (runes l[i].to)) (.slice v.1 v.2.1 v.2.2) ∧ v.2.1 = l[i].to.length := fun i => by
    by_cases hi : i < l.length
    · obtain ⟨u, hu, hv⟩ := h4 i 4 hi (by decide)
      have e : ((recs l).getD i .undef).cells.getD 4 .undef = .sl 1 (runes l[i].to) := by
        simp [recs, List.getD_eq_getElem?_getD, hi, Rec.cv, CV.cells]
      rw [e] at hv
      obtain ⟨p, c, rfl⟩ := vr_slice hv
      exact ⟨(p, (runes l[i].to).length, c), fun _ => ⟨hu, hv, runes_len _⟩⟩
    · exact ⟨(none, 0, 0), fun hi' => absurd hi' hi⟩
  refine ⟨fun i => (key i).choose, ?_, fun i hi => ((key i).choose_spec hi).2⟩
  unfold RowR
  rw [if_neg hn, List.length_map, List.length_range]
  refine ⟨h1, fun x hx => ?_, h3, fun i j hi hj => ?_⟩
  · obtain ⟨i, _, rfl⟩ := List.mem_map.1 hx
    exact recV_wf _ _
  · have eg : ((List.range l.length).map fun i => recV (l.getD i noRec) ((key i).choose)).getD i .undef = recV l[i] ((key i).choose) := by
      simp [List.getD_eq_getElem?_getD, hi]
    have eo : (recs l).getD i .undef = l[i].cv := by simp [recs, List.getD_eq_getElem?_getD, hi]
    rw [eg]
    by_cases h5 : j = 4
    · subst h5
      exact ⟨_, ((key i).choose_spec hi).1, .rsl _ _ _⟩
    · obtain ⟨u, hu, hv⟩ := h4 i j hi hj
      rw [eo] at hv
      refine ⟨u, hu, ?_⟩
      match j, hj, h5 with
      | 0, _, _ => exact hv.scalar rfl
      | 1, _, _ => exact hv.scalar rfl
      | 2, _, _ => exact hv.scalar rfl
      | 3, _, _ => exact hv.scalar rfl
      | 4, _, h => exact absurd rfl h
      | 5, _, _ => exact hv.scalar rfl
      | 6, _, _ => exact hv.scalar rfl
      | 7, _, _ => exact hv.scalar rfl
def visS (v : Value) (n : Nat) (b o : Nat) : Prop := ∃ off c i, v = .slice (some ⟨b, off, none⟩) n c ∧ i < n ∧ o = off + i
theorem vr_vis {w : World} {S : Nat → Nat → Prop} {xs : List CV} {v : Value} (h : VR w S (.sl 1 xs) v) (hs : ∀ x ∈ xs, x.scalar = true ∧ x.cells = [x]) : VR w (visS v xs.length) (.sl 1 xs) v := by
  cases h with
  | slnil sz p c => exact .slnil 1 p c
  | sl sz xs b o cap us h1 h2 h3 h4 =>
    refine .sl 1 xs b o cap us h1 h2 (fun i j hi hj => ⟨⟨o, cap, i * 1 + j, rfl, by omega, rfl⟩, (h3 i j hi hj).2⟩) (fun i j hi hj => (h4 i j hi hj).scalar ?_)
    have hm : xs.getD i .undef ∈ xs := by rw [List.getD_eq_getElem?_getD, List.getElem?_eq_getElem hi]; exact List.getElem_mem hi
    obtain ⟨e1, e2⟩ := hs _ hm
    have : j = 0 := by omega
    subst this
    rw [e2]
    exact e1
theorem vis_cell {w : World} {S : Nat → Nat → Prop} {xs : List CV} {v : Value} (h : VR w S (.sl 1 xs) v) {b o : Nat} (hb : visS v xs.length b o) : S b o ∧ ∃ i u, i < xs.length ∧ w.cell? ⟨b, o, none⟩ = some u ∧ VR w S ((xs.getD i .undef).cells.getD 0 .undef) u := by
  obtain ⟨off, c, i, hv, hi, rfl⟩ := hb
  cases h with
  | slnil sz p c => simp at hi
  | sl sz xs b' o' cap us h1 h2 h3 h4 =>
    injection hv with e1 _ _
    injection e1 with e1
    injection e1 with e1 e2 _
    subst e1; subst e2
    have a1 := h3 i 0 hi (by decide)
    have a2 := h4 i 0 hi (by decide)
    rw [Nat.mul_one, Nat.add_zero] at a1
    exact ⟨a1.1, i, us i 0, hi, a1.2, a2⟩
theorem to_new {w w1 : World} {S S1 : Nat → Nat → Prop} {xs : List CV} {v u : Value} {to : List Int} {O : Nat → Prop} (hO : ∀ b, ¬ O b) (hfr : Fr O w w1) (hv : VR w S (.sl 1 xs) v) (hu8 : ∀ x ∈ xs, ∃ k : Int, x = .int .u8 k)
    (hS1 : ∀ b {o}, S1 b o → visS v xs.length b o ∨ (O b ∨ w.heap.size ≤ b) ∧ w1.frozen? ⟨b, o, none⟩ = false) (hu : VR w1 S1 (.sl 1 (runes to)) u) {b off : Nat} {n c : Nat} (e : u = .slice (some ⟨b, off, none⟩) n c) {j : Nat} (hj : j < to.length) :
    w.heap.size ≤ b ∧ w1.frozen? ⟨b, off + j, none⟩ = false ∧ ∃ x, w1.cell? ⟨b, off + j, none⟩ = some x := by
  have hl := runes_len to
  have e4 : ((runes to).getD j .undef).cells.getD 0 .undef = .int .i32 to[j] := by simp [runes, List.getD_eq_getElem?_getD, hj, CV.cells]
  generalize runes to = rs at *
  cases hu with
  | slnil sz p c =>
    have : 0 = to.length := hl
    omega
  | sl sz ys b' o' cap us h1 h2 h3 h4 =>
    injection e with e1 _ _
    injection e1 with e1
    injection e1 with e1 e2 _
    subst e1; subst e2
    have a1 := h3 j 0 (by rw [hl]; exact hj) (by decide)
    have a2 := h4 j 0 (by rw [hl]; exact hj) (by decide)
    rw [Nat.mul_one, Nat.add_zero] at a1
    rw [e4] at a2
    rcases hS1 _ a1.1 with h | ⟨h, hz⟩
    · exfalso
      obtain ⟨-, i, x, hi, hx, hxv⟩ := vis_cell hv h
      obtain ⟨k, hk⟩ := hu8 (xs.getD i .undef) (by rw [List.getD_eq_getElem?_getD, List.getElem?_eq_getElem hi]; exact List.getElem_mem hi)
      rw [hk] at hxv
      rw [cell_block (w := w) (hfr.block _ (cell_lt hx) (hO _)), hx] at a1
      have a3 := a1.2
      injection a3 with a3
      rw [← a3] at a2
      generalize hq : ((CV.int .u8 k).cells.getD 0 .undef) = y at hxv
      have : y = .int .u8 k := by rw [← hq]; rfl
      subst this
      cases hxv
      cases a2
    · exact ⟨h.resolve_left (hO _), hz, _, a1.2⟩
def b28 : IC := (.seq (.reg [⟨(some 2), 0, none, .mv (.c (.int .i64 0))⟩]) (.seq (.seq (.reg [⟨(some 3), 0, none, .mv (.t 0)⟩]) (.block 0 (.seq (.seq (.reg [⟨(some 5), 0, none, .bin .eql (.t 3) (.c (.int .i64 1))⟩,
  ⟨(some 4), 0, none, .mv (.t 5)⟩]) (.cond (.t 4) .skip (.seq (.reg [⟨(some 6), 0, none, .bin .eql (.t 3) (.c (.int .i64 2))⟩,
  ⟨(some 4), 0, none, .mv (.t 6)⟩]) (.cond (.t 4) .skip (.seq (.reg [⟨(some 7), 0, none, .bin .eql (.t 3) (.c (.int .i64 3))⟩,
  ⟨(some 4), 0, none, .mv (.t 7)⟩]) (.cond (.t 4) .skip (.seq (.reg [⟨(some 8), 0, none, .bin .eql (.t 3) (.c (.int .i64 4))⟩,
  ⟨(some 4), 0, none, .mv (.t 8)⟩]) (.cond (.t 4) .skip (.reg [⟨(some 9), 0, none, .bin .eql (.t 3) (.c (.int .i64 5))⟩,
  ⟨(some 4), 0, none, .mv (.t 9)⟩]))))))))) (.cond (.t 4) (.seq (.reg [⟨(some 2), 0, none, .mv (.c (.int .i64 1))⟩]) .ret) (.seq (.reg [⟨(some 11), 0, none, .bin .eql (.t 3) (.c (.int .i64 6))⟩,
  ⟨(some 10), 0, none, .mv (.t 11)⟩]) (.cond (.t 10) (.seq (.reg [⟨(some 2), 0, none, .mv (.c (.int .i64 2))⟩]) .ret) (.seq (.seq (.reg [⟨(some 13), 0, none, .bin .eql (.t 3) (.c (.int .i64 7))⟩,
  ⟨(some 12), 0, none, .mv (.t 13)⟩]) (.cond (.t 12) .skip (.reg [⟨(some 14), 0, none, .bin .eql (.t 3) (.c (.int .i64 8))⟩,
  ⟨(some 12), 0, none, .mv (.t 14)⟩]))) (.cond (.t 12) (.seq (.reg [⟨(some 2), 0, none, .mv (.c (.int .i64 3))⟩]) .ret) (.seq (.seq (.reg [⟨(some 16), 0, none, .bin .eql (.t 3) (.c (.int .i64 9))⟩,
  ⟨(some 15), 0, none, .mv (.t 16)⟩]) (.cond (.t 15) .skip (.seq (.reg [⟨(some 17), 0, none, .bin .eql (.t 3) (.c (.int .i64 10))⟩,
  ⟨(some 15), 0, none, .mv (.t 17)⟩]) (.cond (.t 15) .skip (.seq (.reg [⟨(some 18), 0, none, .bin .eql (.t 3) (.c (.int .i64 11))⟩,
  ⟨(some 15), 0, none, .mv (.t 18)⟩]) (.cond (.t 15) .skip (.seq (.reg [⟨(some 19), 0, none, .bin .eql (.t 3) (.c (.int .i64 12))⟩,
  ⟨(some 15), 0, none, .mv (.t 19)⟩]) (.cond (.t 15) .skip (.seq (.reg [⟨(some 20), 0, none, .bin .eql (.t 3) (.c (.int .i64 13))⟩,
  ⟨(some 15), 0, none, .mv (.t 20)⟩]) (.cond (.t 15) .skip (.seq (.reg [⟨(some 21), 0, none, .bin .eql (.t 3) (.c (.int .i64 14))⟩,
  ⟨(some 15), 0, none, .mv (.t 21)⟩]) (.cond (.t 15) .skip (.reg [⟨(some 22), 0, none, .bin .eql (.t 3) (.c (.int .i64 15))⟩,
  ⟨(some 15), 0, none, .mv (.t 22)⟩]))))))))))))) (.cond (.t 15) (.seq (.reg [⟨(some 23), 0, none, .mv (.t 0)⟩,
  ⟨(some 24), 0, none, .bin .sub (.t 23) (.c (.int .i64 5))⟩,
  ⟨(some 2), 0, none, .mv (.t 24)⟩]) .ret) .skip)))))))))) (.seq (.reg [⟨(some 2), 0, none, .mv (.c (.int .i64 0))⟩]) .ret)))
def rs28 : List (Nat × Option Nat × Mode) := [(2, none, .plain)]
theorem chk28 : chkC Try.prog Try.f28.ntmps b28 (Try.f28.body.getD .skip) = true := by decide +kernel
theorem top28 {args : List Arg} {out : Out} (ha : args.length.ble Try.f28.ntmps = true) (h8 : args.length.ble 8 = true) (mss : List (List (Option Nat))) (hb : backOK args out.back)
    (hw : rnC Try.prog b28 (topQ rs28 args mss out) (slotsOf (argsAV argBase args 0) 0) (argsOb argBase args 0)) : CW Try.prog 28 args out :=
  CW.of Try.func28 rs28 mss (by decide +kernel) (by decide +kernel) (by decide +kernel) ha h8 chk28 hb hw
def b131 : IC := (.seq (.reg [⟨(some 2), 0, none, .mv (.c (.bool false))⟩]) (.seq (.reg [⟨(some 3), 0, none, .mv (.t 0)⟩,
  ⟨(some 4), 0, none, .bin .geq (.t 3) (.c (.int .i32 0))⟩,
  ⟨(some 5), 0, none, .mv (.t 4)⟩,
  ⟨(some 6), 0, (some (5, true)), .mv (.t 0)⟩,
  ⟨(some 7), 0, (some (5, true)), .bin .leq (.t 6) (.c (.int .i32 1114111))⟩,
  ⟨(some 8), 0, none, .pick (.t 5) (.t 7) (.c (.bool false))⟩,
  ⟨(some 9), 0, none, .mv (.t 8)⟩,
  ⟨(some 10), 0, (some (9, true)), .mv (.t 0)⟩,
  ⟨(some 11), 0, (some (9, true)), .bin .lss (.t 10) (.c (.int .i32 55296))⟩,
  ⟨(some 12), 0, (some (9, true)), .mv (.t 11)⟩,
  ⟨(some 13), 0, (some (12, false)), .mv (.t 0)⟩,
  ⟨(some 14), 0, (some (12, false)), .bin .gtr (.t 13) (.c (.int .i32 57343))⟩,
  ⟨(some 15), 0, (some (9, true)), .pick (.t 12) (.c (.bool true)) (.t 14)⟩,
  ⟨(some 16), 0, none, .pick (.t 9) (.t 15) (.c (.bool false))⟩,
  ⟨(some 2), 0, none, .mv (.t 16)⟩]) .ret))
def rs131 : List (Nat × Option Nat × Mode) := [(2, none, .plain)]
theorem chk131 : chkC Try.prog Try.f131.ntmps b131 (Try.f131.body.getD .skip) = true := by decide +kernel
theorem top131 {args : List Arg} {out : Out} (ha : args.length.ble Try.f131.ntmps = true) (h8 : args.length.ble 8 = true) (mss : List (List (Option Nat))) (hb : backOK args out.back)
    (hw : rnC Try.prog b131 (topQ rs131 args mss out) (slotsOf (argsAV argBase args 0) 0) (argsOb argBase args 0)) : CW Try.prog 131 args out :=
  CW.of Try.func131 rs131 mss (by decide +kernel) (by decide +kernel) (by decide +kernel) ha h8 chk131 hb hw
def b120 : IC := (.seq (.reg [⟨(some 1), 1, none, .box (.t 0)⟩,
  ⟨(some 2), 0, none, .mv (.c (.bool false))⟩]) (.seq (.reg [⟨(some 3), 0, none, .fa (.t 1) 1⟩,
  ⟨(some 4), 0, none, .ld (.t 3) none⟩,
  ⟨(some 5), 0, none, .fa (.t 1) 2⟩,
  ⟨(some 6), 0, none, .ld (.t 5) none⟩,
  ⟨(some 7), 0, none, .bin .eql (.t 4) (.t 6)⟩,
  ⟨(some 8), 0, none, .mv (.t 7)⟩,
  ⟨(some 9), 0, (some (8, true)), .fa (.t 1) 1⟩,
  ⟨(some 10), 0, (some (8, true)), .ld (.t 9) none⟩,
  ⟨(some 11), 0, (some (8, true)), .conv .i32 (.t 10)⟩,
  ⟨(some 12), 2, (some (8, true)), .call (.c (.fn 131)) [((.t 11), .plain)]⟩,
  ⟨(some 13), 0, none, .pick (.t 8) (.t 12) (.c (.bool false))⟩,
  ⟨(some 2), 0, none, .mv (.t 13)⟩]) .ret))
def rs120 : List (Nat × Option Nat × Mode) := [(2, none, .plain)]
theorem chk120 : chkC Try.prog Try.f120.ntmps b120 (Try.f120.body.getD .skip) = true := by decide +kernel
theorem top120 {args : List Arg} {out : Out} (ha : args.length.ble Try.f120.ntmps = true) (h8 : args.length.ble 8 = true) (mss : List (List (Option Nat))) (hb : backOK args out.back)
    (hw : rnC Try.prog b120 (topQ rs120 args mss out) (slotsOf (argsAV argBase args 0) 0) (argsOb argBase args 0)) : CW Try.prog 120 args out :=
  CW.of Try.func120 rs120 mss (by decide +kernel) (by decide +kernel) (by decide +kernel) ha h8 chk120 hb hw
def b121 : IC := (.seq (.reg [⟨(some 3), 1, none, .box (.t 0)⟩,
  ⟨(some 6), 0, none, .mv (.c (.bool false))⟩]) (.seq (.reg [⟨(some 7), 0, none, .fa (.t 3) 3⟩,
  ⟨(some 8), 0, none, .ld (.t 7) none⟩,
  ⟨(some 9), 0, none, .mv (.t 1)⟩,
  ⟨(some 10), 0, none, .bin .geq (.t 8) (.t 9)⟩,
  ⟨(some 11), 0, none, .mv (.t 10)⟩,
  ⟨(some 12), 0, (some (11, true)), .fa (.t 3) 3⟩,
  ⟨(some 13), 0, (some (11, true)), .ld (.t 12) none⟩,
  ⟨(some 14), 0, (some (11, true)), .mv (.t 2)⟩,
  ⟨(some 15), 0, (some (11, true)), .bin .leq (.t 13) (.t 14)⟩,
  ⟨(some 16), 0, none, .pick (.t 11) (.t 15) (.c (.bool false))⟩,
  ⟨(some 6), 0, none, .mv (.t 16)⟩]) .ret))
def rs121 : List (Nat × Option Nat × Mode) := [(6, none, .plain)]
theorem chk121 : chkC Try.prog Try.f121.ntmps b121 (Try.f121.body.getD .skip) = true := by decide +kernel
theorem top121 {args : List Arg} {out : Out} (ha : args.length.ble Try.f121.ntmps = true) (h8 : args.length.ble 8 = true) (mss : List (List (Option Nat))) (hb : backOK args out.back)
    (hw : rnC Try.prog b121 (topQ rs121 args mss out) (slotsOf (argsAV argBase args 0) 0) (argsOb argBase args 0)) : CW Try.prog 121 args out :=
  CW.of Try.func121 rs121 mss (by decide +kernel) (by decide +kernel) (by decide +kernel) ha h8 chk121 hb hw
def b66 : IC := (.seq (.reg [⟨(some 2), 1, none, .box (.t 0)⟩,
  ⟨(some 4), 0, none, .mv (.c (.bool false))⟩]) (.seq (.seq (.reg [⟨(some 5), 0, none, .mv (.t 1)⟩,
  ⟨(some 6), 0, none, .fa (.t 2) 1⟩,
  ⟨(some 7), 0, none, .ld (.t 6) none⟩,
  ⟨(some 8), 0, none, .bin .lss (.t 5) (.t 7)⟩,
  ⟨(some 9), 0, none, .mv (.t 8)⟩,
  ⟨(some 10), 0, (some (9, false)), .mv (.t 1)⟩,
  ⟨(some 11), 0, (some (9, false)), .fa (.t 2) 2⟩,
  ⟨(some 12), 0, (some (9, false)), .ld (.t 11) none⟩,
  ⟨(some 13), 0, (some (9, false)), .bin .gtr (.t 10) (.t 12)⟩,
  ⟨(some 14), 0, none, .pick (.t 9) (.c (.bool true)) (.t 13)⟩,
  ⟨(some 15), 0, none, .mv (.t 14)⟩,
  ⟨(some 16), 0, (some (15, false)), .mv (.t 1)⟩,
  ⟨(some 17), 0, (some (15, false)), .bin .lss (.t 16) (.c (.int .i64 0))⟩,
  ⟨(some 18), 0, none, .pick (.t 15) (.c (.bool true)) (.t 17)⟩,
  ⟨(some 19), 0, none, .mv (.t 18)⟩,
  ⟨(some 20), 0, (some (19, false)), .mv (.t 1)⟩,
  ⟨(some 21), 0, (some (19, false)), .bin .gtr (.t 20) (.c (.int .i64 1114111))⟩,
  ⟨(some 22), 0, none, .pick (.t 19) (.c (.bool true)) (.t 21)⟩]) (.cond (.t 22) (.seq (.reg [⟨(some 4), 0, none, .mv (.c (.bool false))⟩]) .ret) .skip)) (.seq (.reg [⟨(some 23), 0, none, .fa (.t 2) 0⟩,
  ⟨(some 24), 0, none, .ld (.t 23) none⟩,
  ⟨(some 25), 0, none, .bin .neq (.t 24) (.c (.int .i64 4))⟩,
  ⟨(some 26), 0, none, .mv (.t 25)⟩,
  ⟨(some 27), 0, (some (26, false)), .fa (.t 2) 3⟩,
  ⟨(some 28), 0, (some (26, false)), .ld (.t 27) none⟩,
  ⟨(some 29), 0, (some (26, false)), .bin .gtr (.t 28) (.c (.int .i64 0))⟩,
  ⟨(some 30), 0, (some (26, false)), .mv (.t 29)⟩,
  ⟨(some 31), 0, (some (30, true)), .mv (.t 1)⟩,
  ⟨(some 32), 0, (some (30, true)), .conv .u64 (.t 31)⟩,
  ⟨(some 33), 0, (some (30, true)), .fa (.t 2) 1⟩,
  ⟨(some 34), 0, (some (30, true)), .ld (.t 33) none⟩,
  ⟨(some 35), 0, (some (30, true)), .conv .u64 (.t 34)⟩,
  ⟨(some 36), 0, (some (30, true)), .bin .sub (.t 32) (.t 35)⟩,
  ⟨(some 37), 0, (some (30, true)), .fa (.t 2) 3⟩,
  ⟨(some 38), 0, (some (30, true)), .ld (.t 37) none⟩,
  ⟨(some 39), 0, (some (30, true)), .conv .u64 (.t 38)⟩,
  ⟨(some 40), 0, (some (30, true)), .bin .rem (.t 36) (.t 39)⟩,
  ⟨(some 41), 0, (some (30, true)), .bin .eql (.t 40) (.c (.int .u64 0))⟩,
  ⟨(some 42), 0, (some (26, false)), .pick (.t 30) (.t 41) (.c (.bool false))⟩,
  ⟨(some 43), 0, none, .pick (.t 26) (.c (.bool true)) (.t 42)⟩,
  ⟨(some 4), 0, none, .mv (.t 43)⟩]) .ret)))
def rs66 : List (Nat × Option Nat × Mode) := [(4, none, .plain)]
theorem chk66 : chkC Try.prog Try.f66.ntmps b66 (Try.f66.body.getD .skip) = true := by decide +kernel
theorem top66 {args : List Arg} {out : Out} (ha : args.length.ble Try.f66.ntmps = true) (h8 : args.length.ble 8 = true) (mss : List (List (Option Nat))) (hb : backOK args out.back)
    (hw : rnC Try.prog b66 (topQ rs66 args mss out) (slotsOf (argsAV argBase args 0) 0) (argsOb argBase args 0)) : CW Try.prog 66 args out :=
  CW.of Try.func66 rs66 mss (by decide +kernel) (by decide +kernel) (by decide +kernel) ha h8 chk66 hb hw
def famK (k : Int) : Int :=
  if k = 1 ∨ k = 2 ∨ k = 3 ∨ k = 4 ∨ k = 5 then 1 else if k = 6 then 2 else if k = 7 ∨ k = 8 then 3 else if 9 ≤ k ∧ k ≤ 15 then k - 5 else 0
theorem w28 (k : Int) (Q : Ex → Slots → LH → Prop) (hQ : ∀ σ H, Slots.get σ 2 = .c (.int .i64 (famK k)) → Q .ret σ H) : rnC Try.prog b28 Q [(0, .c (.int .i64 k))] [] := by
  unfold b28
  simp only [go_sem, ↓reduceIte, Nat.reduceEqDiff, Nat.reduceMul, Nat.reduceAdd, Nat.reduceDiv, Nat.reduceSub, Nat.reduceLT, Nat.reduceLeDiff, Int.reduceLE, Int.reduceLT, Int.reduceToNat, Int.reduceEq]
  repeat' (first | (refine And.intro (fun _ => ?_) ?_) | (intro _))
  all_goals (refine hQ _ _ ?_; simp only [go_sem, ↓reduceIte, Nat.reduceEqDiff, Nat.reduceMul, Nat.reduceAdd, Nat.reduceDiv, Nat.reduceSub, Nat.reduceLT, Nat.reduceLeDiff, Int.reduceLE, Int.reduceLT, Int.reduceToNat, Int.reduceEq]; congr 2; simp only [famK, wrap_i64]; (repeat' split) <;> omega)
theorem cw28 (k : Int) : CW Try.prog 28 [.cv (.int .i64 k)] ⟨[.cv (.int .i64 (famK k))], []⟩ := top28 rfl rfl [] trivial (w28 k _ fun σ H h => ret1 rfl h)
def valid (c : Int) : Bool := decide (0 ≤ c) && decide (c ≤ 1114111) && (decide (c < 55296) || decide (57343 < c))
theorem w131 (c : Int) (Q : Ex → Slots → LH → Prop) (hQ : ∀ σ H, Slots.get σ 2 = .c (.bool (valid c)) → Q .ret σ H) : rnC Try.prog b131 Q [(0, .c (.int .i32 c))] [] := by
  unfold b131
  simp only [go_sem, ↓reduceIte, Nat.reduceEqDiff, Nat.reduceMul, Nat.reduceAdd, Nat.reduceDiv, Nat.reduceSub, Nat.reduceLT, Nat.reduceLeDiff, Int.reduceLE, Int.reduceLT, Int.reduceToNat, Int.reduceEq]
  exact ⟨by omega, hQ _ _ rfl⟩
theorem cw131 (c : Int) : CW Try.prog 131 [.cv (.int .i32 c)] ⟨[.cv (.bool (valid c))], []⟩ := top131 rfl rfl [] trivial (w131 c _ fun σ H h => ret1 rfl h)
theorem w121 (r : Rec) (lo hi : Int) (Q : Ex → Slots → LH → Prop) (hQ : ∀ σ H, Slots.get σ 6 = .c (.bool (decide (lo ≤ r.n) && decide (r.n ≤ hi))) → Q .ret σ H) : rnC Try.prog b121 Q [(0, .c r.cv), (1, .c (.int .i64 lo)), (2, .c (.int .i64 hi))] [] := by
  unfold b121
  simp only [go_sem, ↓reduceIte, Nat.reduceEqDiff, Nat.reduceMul, Nat.reduceAdd, Nat.reduceDiv, Nat.reduceSub, Nat.reduceLT, Nat.reduceLeDiff, Int.reduceLE, Int.reduceLT, Int.reduceToNat, Int.reduceEq]
  exact hQ _ _ rfl
theorem cw121 (r : Rec) (lo hi : Int) : CW Try.prog 121 [.cv r.cv, .cv (.int .i64 lo), .cv (.int .i64 hi)] ⟨[.cv (.bool (decide (lo ≤ r.n) && decide (r.n ≤ hi)))], []⟩ := top121 rfl rfl [] trivial (w121 r lo hi _ fun σ H h => ret1 rfl h)
def oneR (r : Rec) : Bool := decide (r.lo = r.hi) && valid (IntKind.i32.wrap r.lo)
theorem w120 (r : Rec) (Q : Ex → Slots → LH → Prop) (hQ : ∀ σ H, Slots.get σ 2 = .c (.bool (oneR r)) → Q .ret σ H) : rnC Try.prog b120 Q [(0, .c r.cv)] [] := by
  unfold b120
  simp only [go_sem, ↓reduceIte, Nat.reduceEqDiff, Nat.reduceMul, Nat.reduceAdd, Nat.reduceDiv, Nat.reduceSub, Nat.reduceLT, Nat.reduceLeDiff, Int.reduceLE, Int.reduceLT, Int.reduceToNat, Int.reduceEq]
  refine callK_1 _ (fun _ => cw131 _) (by simp only [go_sem, ↓reduceIte, Nat.reduceEqDiff, Nat.reduceMul, Nat.reduceAdd, Nat.reduceDiv, Nat.reduceSub, Nat.reduceLT, Nat.reduceLeDiff, Int.reduceLE, Int.reduceLT, Int.reduceToNat, Int.reduceEq]) rfl rfl ?_
  simp only [go_sem, ↓reduceIte, Nat.reduceEqDiff, Nat.reduceMul, Nat.reduceAdd, Nat.reduceDiv, Nat.reduceSub, Nat.reduceLT, Nat.reduceLeDiff, Int.reduceLE, Int.reduceLT, Int.reduceToNat, Int.reduceEq]
  exact hQ _ _ rfl
theorem cw120 (r : Rec) : CW Try.prog 120 [.cv r.cv] ⟨[.cv (.bool (oneR r))], []⟩ := top120 rfl rfl [] trivial (w120 r _ fun σ H h => ret1 rfl h)
def i64ok (n : Int) : Prop := -9223372036854775808 ≤ n ∧ n < 9223372036854775808
def i32ok (n : Int) : Prop := -2147483648 ≤ n ∧ n < 2147483648
theorem succ64 {k n : Nat} (h : k < n) (hn : n < 9223372036854775808) : IntKind.i64.wrap (k + 1) = ((k + 1 : Nat) : Int) := by rw [wrap_i64]; omega
def Rec.ok (r : Rec) : Prop := i64ok r.kind ∧ i64ok r.lo ∧ i64ok r.hi ∧ i64ok r.n ∧ ∀ c ∈ r.to, i32ok c
def speaksR (r : Rec) (c : Int) : Bool :=
  if ((c < r.lo ∨ r.hi < c) ∨ c < 0) ∨ 1114111 < c then false
  else !decide (r.kind = 4) || (decide (0 < r.n) && (IntKind.u64.wrap (IntKind.u64.wrap c - IntKind.u64.wrap r.lo)).tmod (IntKind.u64.wrap r.n) == 0)
theorem w66 (r : Rec) (c : Int) (hr : r.ok) (Q : Ex → Slots → LH → Prop) (hQ : ∀ σ H, Slots.get σ 4 = .c (.bool (speaksR r c)) → Q .ret σ H) : rnC Try.prog b66 Q [(0, .c r.cv), (1, .c (.int .i64 c))] [] := by
  have hn := hr.2.2.2.1
  unfold i64ok at hn
  unfold b66
  simp only [go_sem, ↓reduceIte, Nat.reduceEqDiff, Nat.reduceMul, Nat.reduceAdd, Nat.reduceDiv, Nat.reduceSub, Nat.reduceLT, Nat.reduceLeDiff, Int.reduceLE, Int.reduceLT, Int.reduceToNat, Int.reduceEq]
  refine ⟨fun h => hQ _ _ ?_, fun h => ⟨?_, fun h1 h2 => ⟨h1, h2⟩, hQ _ _ ?_⟩⟩
  · simp only [go_sem, ↓reduceIte, Nat.reduceEqDiff, Nat.reduceMul, Nat.reduceAdd, Nat.reduceDiv, Nat.reduceSub, Nat.reduceLT, Nat.reduceLeDiff, Int.reduceLE, Int.reduceLT, Int.reduceToNat, Int.reduceEq, speaksR]
    rw [if_pos h]
  · rw [wrap_u64]; omega
  · simp only [go_sem, ↓reduceIte, Nat.reduceEqDiff, Nat.reduceMul, Nat.reduceAdd, Nat.reduceDiv, Nat.reduceSub, Nat.reduceLT, Nat.reduceLeDiff, Int.reduceLE, Int.reduceLT, Int.reduceToNat, Int.reduceEq, speaksR]
    rw [if_neg (by omega)]
theorem cw66 (r : Rec) (c : Int) (hr : r.ok) : CW Try.prog 66 [.cv r.cv, .cv (.int .i64 c)] ⟨[.cv (.bool (speaksR r c))], []⟩ := top66 rfl rfl [] trivial (w66 r c hr _ fun σ H h => ret1 rfl h)
def l56_0 : IC := (.seq (.seq (.reg [⟨(some 6), 0, none, .mv (.t 0)⟩,
  ⟨(some 7), 0, none, .bin .geq (.t 6) (.c (.int .i64 128))⟩]) (.cond (.t 7) .skip (.exit 0))) (.block 1 (.seq (.reg [⟨(some 8), 0, none, .mv (.t 3)⟩,
  ⟨(some 9), 0, none, .mv (.t 0)⟩,
  ⟨(some 10), 0, none, .bin .and (.t 9) (.c (.int .i64 127))⟩,
  ⟨(some 11), 0, none, .bin .or (.t 10) (.c (.int .i64 128))⟩,
  ⟨(some 12), 0, none, .conv .u8 (.t 11)⟩,
  ⟨(some 13), 1, none, .bsl 1 [(.t 12)]⟩,
  ⟨(some 14), 2, none, .app (.t 8) (.t 13) 1 1 false⟩,
  ⟨(some 3), 0, none, .mv (.t 14)⟩]) (.reg [⟨(some 15), 0, none, .mv (.t 0)⟩,
  ⟨(some 16), 0, none, .bin .shr (.t 15) (.c (.int .u64 7))⟩,
  ⟨(some 0), 0, none, .mv (.t 16)⟩]))))
def n56_0 : Norm := ⟨[(0, .plain), (3, .own 1 1000003)], []⟩
def b56 : IC := (.seq (.reg [⟨(some 2), 0, none, .mv (.c .nilsl)⟩]) (.seq (.seq (.reg [⟨(some 4), 0, none, .mv (.t 0)⟩,
  ⟨(some 5), 0, none, .bin .lss (.t 4) (.c (.int .i64 0))⟩]) (.cond (.t 5) (.seq (.reg [⟨(some 2), 0, none, .mv (.c .nilsl)⟩]) .ret) .skip)) (.seq (.reg [⟨(some 3), 0, none, .mv (.c .nilsl)⟩]) (.seq (.block 0 (.loop n56_0 l56_0)) (.seq (.reg [⟨(some 17), 0, none, .mv (.t 3)⟩,
  ⟨(some 18), 0, none, .mv (.t 0)⟩,
  ⟨(some 19), 0, none, .conv .u8 (.t 18)⟩,
  ⟨(some 20), 3, none, .bsl 1 [(.t 19)]⟩,
  ⟨(some 21), 4, none, .app (.t 17) (.t 20) 1 1 false⟩,
  ⟨(some 2), 0, none, .mv (.t 21)⟩]) .ret)))))
def rs56 : List (Nat × Option Nat × Mode) := [(2, none, .move 1)]
theorem chk56 : chkC Try.prog Try.f56.ntmps b56 (Try.f56.body.getD .skip) = true := by decide +kernel
theorem top56 {args : List Arg} {out : Out} (ha : args.length.ble Try.f56.ntmps = true) (h8 : args.length.ble 8 = true) (mss : List (List (Option Nat))) (hb : backOK args out.back)
    (hw : rnC Try.prog b56 (topQ rs56 args mss out) (slotsOf (argsAV argBase args 0) 0) (argsOb argBase args 0)) : CW Try.prog 56 args out :=
  CW.of Try.func56 rs56 mss (by decide +kernel) (by decide +kernel) (by decide +kernel) ha h8 chk56 hb hw
def bys (l : List UInt8) : List CV := l.map u8
def by8 (n : Int) : UInt8 := UInt8.ofNat (n % 256).toNat
theorem by8_nat (n : Int) : ((by8 n).toNat : Int) = n % 256 := by
  unfold by8
  have : (n % 256).toNat < 256 := by omega
  simp [UInt8.toNat_ofNat', Nat.mod_eq_of_lt this]
  omega
theorem by8_cv (n : Int) : CV.int .u8 (IntKind.u8.wrap n) = u8 (by8 n) := by unfold u8; rw [by8_nat, wrap_u8]
theorem bys_len (l : List UInt8) : (bys l).length = l.length := by simp [bys]
attribute [go_sem] bys_len
theorem bys_app (a b : List UInt8) : bys a ++ bys b = bys (a ++ b) := by simp [bys]
theorem bys_one (b : UInt8) : [u8 b] = bys [b] := rfl
theorem bys_take (l : List UInt8) : List.take l.length (bys l) = bys l := List.take_of_length_le (by rw [bys_len]; omega)
theorem bys_at {l : List UInt8} {k : Nat} (h : k < l.length) : (bys l).getD k .undef = .int .u8 (l[k].toNat : Int) := by
  simp [bys, u8, List.getD_eq_getElem?_getD, h]
theorem bys_out {l : List UInt8} {k : Nat} (h : l.length ≤ k) : (bys l).getD k .undef = .undef := by
  rw [List.getD_eq_getElem?_getD, List.getElem?_eq_none (by rw [bys_len]; omega)]; rfl
theorem bys_scalar (l : List UInt8) : ∀ x ∈ bys l, x.scalar = true := by
  intro x hx
  obtain ⟨c, _, rfl⟩ := List.mem_map.1 hx
  rfl
theorem bit_and {n m : Nat} (hn : n < 9223372036854775808) (hm : m < 9223372036854775808) : bitI .and .i64 (n : Int) (m : Int) = ((n &&& m : Nat) : Int) := by
  have e : ∀ k : Nat, BitVec.ofInt 64 (k : Int) = BitVec.ofNat 64 k := fun k => by apply BitVec.eq_of_toNat_eq; simp [BitVec.toNat_ofInt]
  show IntKind.i64.wrap ((BitVec.ofInt 64 (n : Int) &&& BitVec.ofInt 64 (m : Int)).toNat : Int) = _
  rw [e, e, BitVec.toNat_and, BitVec.toNat_ofNat, BitVec.toNat_ofNat, Nat.mod_eq_of_lt (by omega), Nat.mod_eq_of_lt (by omega), wrap_i64]
  have : n &&& m ≤ n := Nat.and_le_left
  omega
theorem bit_or {n m : Nat} (hn : n < 9223372036854775808) (hm : m < 9223372036854775808) : bitI .or .i64 (n : Int) (m : Int) = ((n ||| m : Nat) : Int) := by
  have e : ∀ k : Nat, BitVec.ofInt 64 (k : Int) = BitVec.ofNat 64 k := fun k => by apply BitVec.eq_of_toNat_eq; simp [BitVec.toNat_ofInt]
  show IntKind.i64.wrap ((BitVec.ofInt 64 (n : Int) ||| BitVec.ofInt 64 (m : Int)).toNat : Int) = _
  rw [e, e, BitVec.toNat_or, BitVec.toNat_ofNat, BitVec.toNat_ofNat, Nat.mod_eq_of_lt (by omega), Nat.mod_eq_of_lt (by omega), wrap_i64]
  have : n ||| m < 2 ^ 63 := Nat.or_lt_two_pow (by omega) (by omega)
  omega
def uintL (n : Nat) : List UInt8 := if h : n < 128 then [by8 n] else by8 ((n % 128 + 128 : Nat) : Int) :: uintL (n / 128)
termination_by n
def uintP (n : Int) : List UInt8 := if n < 0 then [] else uintL n.toNat
theorem uintL_len (n k : Nat) (hk : n < 128 ^ (k + 1)) : (uintL n).length ≤ k + 1 := by
  induction k generalizing n with
  | zero => rw [uintL, dif_pos (by simpa using hk)]; simp
  | succ k ih =>
    rw [uintL]
    split
    · simp
    · have := ih (n / 128) (by rw [Nat.div_lt_iff_lt_mul (by decide)]; exact hk)
      simp; omega
theorem uintL_9 {n : Nat} (h : n < 9223372036854775808) : (uintL n).length ≤ 9 := uintL_len n 8 (by simpa using h)
theorem uintP_9 {n : Int} (h : n < 9223372036854775808) : (uintP n).length ≤ 9 := by
  unfold uintP
  split
  · simp
  · exact uintL_9 (by omega)
theorem or128 {m : Nat} (h : m < 128) : m ||| 128 = m + 128 := by
  have : ∀ m : Fin 128, m.val ||| 128 = m.val + 128 := by decide
  exact this ⟨m, h⟩
theorem low7 {n : Nat} (hn : n < 9223372036854775808) : bitI .or .i64 (bitI .and .i64 (n : Int) 127) 128 = ((n % 128 + 128 : Nat) : Int) := by
  have h1 : bitI .and .i64 (n : Int) 127 = ((n % 128 : Nat) : Int) := by
    rw [show (127 : Int) = ((127 : Nat) : Int) from rfl, bit_and hn (by decide)]
    rw [show (127 : Nat) = 2 ^ 7 - 1 from rfl, Nat.and_two_pow_sub_one_eq_mod]
  rw [h1, show (128 : Int) = ((128 : Nat) : Int) from rfl, bit_or (by omega) (by decide), or128 (by omega)]
theorem fdiv_nat (n k : Nat) : (n : Int).fdiv (k : Int) = ((n / k : Nat) : Int) := by
  rw [Int.fdiv_eq_ediv_of_nonneg _ (by omega)]; simp
theorem w56 (n : Int) (hn : n < 9223372036854775808) (Q : Ex → Slots → LH → Prop) (hQ : ∀ σ H, OwnAt 1 (bys (uintP n)) (Slots.get σ 2) H → Q .ret σ H) : rnC Try.prog b56 Q [(0, .c (.int .i64 n))] [] := by
  unfold b56
  simp only [go_sem, ↓reduceIte, Nat.reduceEqDiff, Nat.reduceMul, Nat.reduceAdd, Nat.reduceDiv, Nat.reduceSub, Nat.reduceLT, Nat.reduceLeDiff, Int.reduceLE, Int.reduceLT, Int.reduceToNat, Int.reduceEq]
  refine ⟨fun h => hQ _ _ (.inl ⟨rfl, by unfold uintP; rw [if_pos h]; rfl⟩), fun h => ?_⟩
  refine loopR.by (α := Nat × List UInt8) (fun p => [(0, .c (.int .i64 (p.1 : Int))), (3, .osl 1000003 0 p.2.length)]) (fun p => [(1000003, .row 1 (bys p.2))]) (fun p => p.1) (fun p => p.1 < 9223372036854775808 ∧ p.2.length + (uintL p.1).length ≤ 9 ∧ p.2 ++ uintL p.1 = uintP n) (n.toNat, []) ⟨by simp only; omega, by simpa using uintL_9 (by omega), by unfold uintP; rw [if_neg (by omega)]; rfl⟩ ?_ ?_
  · intro Y hY
    have e : ((n.toNat : Nat) : Int) = n := Int.toNat_of_nonneg (by omega)
    simp only [e] at hY
    simp only [go_sem, ↓reduceIte, Nat.reduceEqDiff, Nat.reduceMul, Nat.reduceAdd, Nat.reduceDiv, Nat.reduceSub, Nat.reduceLT, Nat.reduceLeDiff, Int.reduceLE, Int.reduceLT, Int.reduceToNat, Int.reduceEq, n56_0]
    exact hY
  intro p hp Y hY
  obtain ⟨m, l⟩ := p
  obtain ⟨hm, hl, heq⟩ := hp
  simp only at hm hl heq
  unfold l56_0
  simp only [go_sem, ↓reduceIte, Nat.reduceEqDiff, Nat.reduceMul, Nat.reduceAdd, Nat.reduceDiv, Nat.reduceSub, Nat.reduceLT, Nat.reduceLeDiff, Int.reduceLE, Int.reduceLT, Int.reduceToNat, Int.reduceEq, n56_0]
  rw [bys_take, by8_cv, by8_cv, bys_len, show (2 : Int) ^ min 7 64 = ((128 : Nat) : Int) from rfl, fdiv_nat, low7 hm]
  rw [uintL] at heq hl
  refine ⟨fun h1 => ⟨by omega, rfl, ?_⟩, fun h1 => ⟨by omega, hQ _ _ (own_at rfl (by rw [← heq, dif_pos (by omega)]; simp [bys]) ?_)⟩⟩
  · rw [dif_neg (by omega)] at heq hl
    simp only [List.length_cons] at hl
    have := hY (m / 128, l ++ [by8 ((m % 128 + 128 : Nat) : Int)]) ⟨by simp only; omega, by simp only [List.length_append, List.length_singleton]; omega, by simp only [List.append_assoc]; exact heq⟩ (by simp only; omega)
    simp only [List.length_append, List.length_singleton, ← bys_app] at this
    exact this
  · rw [← heq, dif_pos (by omega), ← bys_app]; rfl
theorem cw56 (n : Int) (hn : n < 9223372036854775808) : CW Try.prog 56 [.cv (.int .i64 n)] ⟨[.own 1 (bys (uintP n))], []⟩ :=
  top56 rfl rfl [] trivial (w56 n hn _ fun σ H h => retO rfl h)
theorem u8_of {n : Int} (h0 : 0 ≤ n) (h1 : n < 256) : CV.int .u8 n = u8 (by8 n) := by unfold u8; rw [by8_nat]; congr 1; omega
def l64_0 : IC := (.seq (.reg [⟨(some 18), 0, none, .bin .lss (.t 17) (.c (.int .i64 9))⟩]) (.seq (.cond (.t 18) .skip (.exit 0)) (.seq (.block 1 (.seq (.reg [⟨(some 19), 0, none, .mv (.t 17)⟩,
  ⟨(some 7), 0, none, .mv (.t 19)⟩]) (.seq (.seq (.reg [⟨(some 20), 0, none, .mv (.t 1)⟩,
  ⟨(some 21), 0, none, .mv (.t 7)⟩,
  ⟨(some 22), 0, none, .bin .add (.t 20) (.t 21)⟩,
  ⟨(some 23), 0, none, .mv (.t 0)⟩,
  ⟨(some 24), 0, none, .len false (.t 23)⟩,
  ⟨(some 25), 0, none, .bin .geq (.t 22) (.t 24)⟩]) (.cond (.t 25) (.seq (.reg [⟨(some 4), 0, none, .mv (.c (.int .i64 0))⟩,
  ⟨(some 5), 0, none, .mv (.c (.int .i64 0))⟩,
  ⟨(some 6), 0, none, .mv (.c (.int .i64 10))⟩]) .ret) .skip)) (.seq (.reg [⟨(some 26), 0, none, .mv (.t 0)⟩,
  ⟨(some 27), 0, none, .mv (.t 1)⟩,
  ⟨(some 28), 0, none, .mv (.t 7)⟩,
  ⟨(some 29), 0, none, .bin .add (.t 27) (.t 28)⟩,
  ⟨(some 30), 0, none, .ia (.t 26) (.t 29) 1⟩,
  ⟨(some 31), 0, none, .ld (.t 30) none⟩,
  ⟨(some 8), 0, none, .mv (.t 31)⟩]) (.seq (.reg [⟨(some 32), 0, none, .mv (.t 4)⟩,
  ⟨(some 33), 0, none, .mv (.t 8)⟩,
  ⟨(some 34), 0, none, .bin .and (.t 33) (.c (.int .u8 127))⟩,
  ⟨(some 35), 0, none, .conv .i64 (.t 34)⟩,
  ⟨(some 36), 0, none, .mv (.t 7)⟩,
  ⟨(some 37), 0, none, .bin .mul (.c (.int .i64 7)) (.t 36)⟩,
  ⟨(some 38), 0, none, .bin .shl (.t 35) (.t 37)⟩,
  ⟨(some 39), 0, none, .bin .or (.t 32) (.t 38)⟩,
  ⟨(some 4), 0, none, .mv (.t 39)⟩]) (.seq (.reg [⟨(some 40), 0, none, .mv (.t 8)⟩,
  ⟨(some 41), 0, none, .bin .lss (.t 40) (.c (.int .u8 128))⟩]) (.cond (.t 41) (.seq (.seq (.reg [⟨(some 42), 0, none, .mv (.t 8)⟩,
  ⟨(some 43), 0, none, .bin .eql (.t 42) (.c (.int .u8 0))⟩,
  ⟨(some 44), 0, none, .mv (.t 43)⟩,
  ⟨(some 45), 0, (some (44, true)), .mv (.t 7)⟩,
  ⟨(some 46), 0, (some (44, true)), .bin .gtr (.t 45) (.c (.int .i64 0))⟩,
  ⟨(some 47), 0, none, .pick (.t 44) (.t 46) (.c (.bool false))⟩]) (.cond (.t 47) (.seq (.reg [⟨(some 4), 0, none, .mv (.c (.int .i64 0))⟩,
  ⟨(some 5), 0, none, .mv (.c (.int .i64 0))⟩,
  ⟨(some 6), 0, none, .mv (.c (.int .i64 12))⟩]) .ret) .skip)) (.seq (.reg [⟨(some 48), 0, none, .mv (.t 4)⟩,
  ⟨(some 49), 0, none, .mv (.t 1)⟩,
  ⟨(some 50), 0, none, .mv (.t 7)⟩,
  ⟨(some 51), 0, none, .bin .add (.t 49) (.t 50)⟩,
  ⟨(some 52), 0, none, .bin .add (.t 51) (.c (.int .i64 1))⟩,
  ⟨(some 4), 0, none, .mv (.t 48)⟩,
  ⟨(some 5), 0, none, .mv (.t 52)⟩,
  ⟨(some 6), 0, none, .mv (.c (.int .i64 0))⟩]) .ret)) .skip))))))) (.reg [⟨(some 53), 0, none, .bin .add (.t 17) (.c (.int .i64 1))⟩,
  ⟨(some 17), 0, none, .mv (.t 53)⟩]))))
def n64_0 : Norm := ⟨[(0, .plain), (1, .plain), (4, .plain), (17, .plain)], []⟩
def b64 : IC := (.seq (.reg [⟨(some 4), 0, none, .mv (.c (.int .i64 0))⟩,
  ⟨(some 5), 0, none, .mv (.c (.int .i64 0))⟩,
  ⟨(some 6), 0, none, .mv (.c (.int .i64 0))⟩]) (.seq (.seq (.reg [⟨(some 9), 0, none, .mv (.t 1)⟩,
  ⟨(some 10), 0, none, .bin .lss (.t 9) (.c (.int .i64 0))⟩,
  ⟨(some 11), 0, none, .mv (.t 10)⟩,
  ⟨(some 12), 0, (some (11, false)), .mv (.t 1)⟩,
  ⟨(some 13), 0, (some (11, false)), .mv (.t 0)⟩,
  ⟨(some 14), 0, (some (11, false)), .len false (.t 13)⟩,
  ⟨(some 15), 0, (some (11, false)), .bin .gtr (.t 12) (.t 14)⟩,
  ⟨(some 16), 0, none, .pick (.t 11) (.c (.bool true)) (.t 15)⟩]) (.cond (.t 16) (.seq (.reg [⟨(some 4), 0, none, .mv (.c (.int .i64 0))⟩,
  ⟨(some 5), 0, none, .mv (.c (.int .i64 0))⟩,
  ⟨(some 6), 0, none, .mv (.c (.int .i64 1))⟩]) .ret) .skip)) (.seq (.seq (.reg [⟨(some 17), 0, none, .mv (.c (.int .i64 0))⟩]) (.block 0 (.loop n64_0 l64_0))) (.seq (.reg [⟨(some 4), 0, none, .mv (.c (.int .i64 0))⟩,
  ⟨(some 5), 0, none, .mv (.c (.int .i64 0))⟩,
  ⟨(some 6), 0, none, .mv (.c (.int .i64 11))⟩]) .ret))))
def rs64 : List (Nat × Option Nat × Mode) := [(4, none, .plain), (5, none, .plain), (6, none, .plain)]
theorem chk64 : chkC Try.prog Try.f64.ntmps b64 (Try.f64.body.getD .skip) = true := by decide +kernel
theorem top64 {args : List Arg} {out : Out} (ha : args.length.ble Try.f64.ntmps = true) (h8 : args.length.ble 8 = true) (mss : List (List (Option Nat))) (hb : backOK args out.back)
    (hw : rnC Try.prog b64 (topQ rs64 args mss out) (slotsOf (argsAV argBase args 0) 0) (argsOb argBase args 0)) : CW Try.prog 64 args out :=
  CW.of Try.func64 rs64 mss (by decide +kernel) (by decide +kernel) (by decide +kernel) ha h8 chk64 hb hw
def l105_0 : IC := (.seq (.seq (.reg [⟨(some 18), 0, none, .mv (.t 8)⟩,
  ⟨(some 19), 0, none, .bin .lss (.t 18) (.c (.int .i64 9))⟩]) (.cond (.t 19) .skip (.exit 0))) (.seq (.block 1 (.seq (.seq (.reg [⟨(some 22), 0, none, .mv (.t 1)⟩,
  ⟨(some 23), 0, none, .mv (.t 8)⟩,
  ⟨(some 24), 0, none, .bin .add (.t 22) (.t 23)⟩,
  ⟨(some 25), 0, none, .mv (.t 0)⟩,
  ⟨(some 26), 0, none, .len false (.t 25)⟩,
  ⟨(some 27), 0, none, .bin .eql (.t 24) (.t 26)⟩]) (.cond (.t 27) (.seq (.reg [⟨(some 4), 0, none, .mv (.c (.int .i64 0))⟩,
  ⟨(some 5), 0, none, .mv (.c (.int .i64 0))⟩,
  ⟨(some 6), 0, none, .mv (.c (.int .i64 10))⟩]) .ret) .skip)) (.seq (.reg [⟨(some 28), 0, none, .mv (.t 0)⟩,
  ⟨(some 29), 0, none, .mv (.t 1)⟩,
  ⟨(some 30), 0, none, .mv (.t 8)⟩,
  ⟨(some 31), 0, none, .bin .add (.t 29) (.t 30)⟩,
  ⟨(some 32), 0, none, .ia (.t 28) (.t 31) 1⟩,
  ⟨(some 33), 0, none, .ld (.t 32) none⟩,
  ⟨(some 34), 0, none, .conv .i64 (.t 33)⟩,
  ⟨(some 9), 0, none, .mv (.t 34)⟩]) (.seq (.reg [⟨(some 35), 0, none, .mv (.t 7)⟩,
  ⟨(some 36), 0, none, .mv (.t 9)⟩,
  ⟨(some 37), 0, none, .bin .rem (.t 36) (.c (.int .i64 128))⟩,
  ⟨(some 38), 0, none, .mv (.t 8)⟩,
  ⟨(some 39), 0, none, .bin .mul (.c (.int .i64 7)) (.t 38)⟩,
  ⟨(some 40), 0, none, .conv .u64 (.t 39)⟩,
  ⟨(some 41), 0, none, .bin .shl (.t 37) (.t 40)⟩,
  ⟨(some 42), 0, none, .bin .add (.t 35) (.t 41)⟩,
  ⟨(some 7), 0, none, .mv (.t 42)⟩]) (.seq (.reg [⟨(some 43), 0, none, .mv (.t 9)⟩,
  ⟨(some 44), 0, none, .bin .lss (.t 43) (.c (.int .i64 128))⟩]) (.cond (.t 44) (.seq (.seq (.reg [⟨(some 45), 0, none, .mv (.t 9)⟩,
  ⟨(some 46), 0, none, .bin .eql (.t 45) (.c (.int .i64 0))⟩,
  ⟨(some 47), 0, none, .mv (.t 46)⟩,
  ⟨(some 48), 0, (some (47, true)), .mv (.t 8)⟩,
  ⟨(some 49), 0, (some (47, true)), .bin .gtr (.t 48) (.c (.int .i64 0))⟩,
  ⟨(some 50), 0, none, .pick (.t 47) (.t 49) (.c (.bool false))⟩]) (.cond (.t 50) (.seq (.reg [⟨(some 4), 0, none, .mv (.c (.int .i64 0))⟩,
  ⟨(some 5), 0, none, .mv (.c (.int .i64 0))⟩,
  ⟨(some 6), 0, none, .mv (.c (.int .i64 12))⟩]) .ret) .skip)) (.seq (.reg [⟨(some 51), 0, none, .mv (.t 7)⟩,
  ⟨(some 52), 0, none, .mv (.t 1)⟩,
  ⟨(some 53), 0, none, .mv (.t 8)⟩,
  ⟨(some 54), 0, none, .bin .add (.t 52) (.t 53)⟩,
  ⟨(some 55), 0, none, .bin .add (.t 54) (.c (.int .i64 1))⟩,
  ⟨(some 4), 0, none, .mv (.t 51)⟩,
  ⟨(some 5), 0, none, .mv (.t 55)⟩,
  ⟨(some 6), 0, none, .mv (.c (.int .i64 0))⟩]) .ret)) .skip)))))) (.reg [⟨(some 20), 0, none, .mv (.t 8)⟩,
  ⟨(some 21), 0, none, .bin .add (.t 20) (.c (.int .i64 1))⟩,
  ⟨(some 8), 0, none, .mv (.t 21)⟩])))
def n105_0 : Norm := ⟨[(0, .plain), (1, .plain), (7, .plain), (8, .plain)], []⟩
def b105 : IC := (.seq (.reg [⟨(some 4), 0, none, .mv (.c (.int .i64 0))⟩,
  ⟨(some 5), 0, none, .mv (.c (.int .i64 0))⟩,
  ⟨(some 6), 0, none, .mv (.c (.int .i64 0))⟩]) (.seq (.seq (.reg [⟨(some 10), 0, none, .mv (.t 1)⟩,
  ⟨(some 11), 0, none, .bin .lss (.t 10) (.c (.int .i64 0))⟩,
  ⟨(some 12), 0, none, .mv (.t 11)⟩,
  ⟨(some 13), 0, (some (12, false)), .mv (.t 1)⟩,
  ⟨(some 14), 0, (some (12, false)), .mv (.t 0)⟩,
  ⟨(some 15), 0, (some (12, false)), .len false (.t 14)⟩,
  ⟨(some 16), 0, (some (12, false)), .bin .gtr (.t 13) (.t 15)⟩,
  ⟨(some 17), 0, none, .pick (.t 12) (.c (.bool true)) (.t 16)⟩]) (.cond (.t 17) (.seq (.reg [⟨(some 4), 0, none, .mv (.c (.int .i64 0))⟩,
  ⟨(some 5), 0, none, .mv (.c (.int .i64 0))⟩,
  ⟨(some 6), 0, none, .mv (.c (.int .i64 1))⟩]) .ret) .skip)) (.seq (.reg [⟨(some 7), 0, none, .mv (.c (.int .i64 0))⟩]) (.seq (.seq (.reg [⟨(some 8), 0, none, .mv (.c (.int .i64 0))⟩]) (.block 0 (.loop n105_0 l105_0))) (.seq (.reg [⟨(some 4), 0, none, .mv (.c (.int .i64 0))⟩,
  ⟨(some 5), 0, none, .mv (.c (.int .i64 0))⟩,
  ⟨(some 6), 0, none, .mv (.c (.int .i64 11))⟩]) .ret)))))
def rs105 : List (Nat × Option Nat × Mode) := [(4, none, .plain), (5, none, .plain), (6, none, .plain)]
theorem chk105 : chkC Try.prog Try.f105.ntmps b105 (Try.f105.body.getD .skip) = true := by decide +kernel
theorem top105 {args : List Arg} {out : Out} (ha : args.length.ble Try.f105.ntmps = true) (h8 : args.length.ble 8 = true) (mss : List (List (Option Nat))) (hb : backOK args out.back)
    (hw : rnC Try.prog b105 (topQ rs105 args mss out) (slotsOf (argsAV argBase args 0) 0) (argsOb argBase args 0)) : CW Try.prog 105 args out :=
  CW.of Try.func105 rs105 mss (by decide +kernel) (by decide +kernel) (by decide +kernel) ha h8 chk105 hb hw
def rdGo (at_ : Int) : Nat → List UInt8 → Nat → Int × Int × Int
  | 0, _, _ => (0, 0, 11)
  | k + 1, [], _ => (0, 0, 10)
  | k + 1, c :: t, n =>
    if c.toNat < 128 then
      if c.toNat = 0 ∧ k < 8 then (0, 0, 12) else (((n + c.toNat * 128 ^ (8 - k) : Nat) : Int), at_ + ((8 - k : Nat) : Int) + 1, 0)
    else rdGo at_ k t (n + (c.toNat - 128) * 128 ^ (8 - k))
def rdU (b : List UInt8) (at_ : Int) : Int × Int × Int := if at_ < 0 ∨ (b.length : Int) < at_ then (0, 0, 1) else rdGo at_ 9 (b.drop at_.toNat) 0
theorem pow7 (i : Nat) : 2 ^ (7 * i) = 128 ^ i := by rw [Nat.pow_mul]
theorem pow_le9 {i : Nat} (h : i ≤ 9) : 128 ^ i ≤ 9223372036854775808 := Nat.le_trans (Nat.pow_le_pow_right (by decide) h) (by decide)
theorem and127 (c : UInt8) : bitI .and .u8 (c.toNat : Int) 127 = ((c.toNat % 128 : Nat) : Int) := by
  have : ∀ c : Fin 256, bitI .and .u8 ((c.val : Nat) : Int) 127 = ((c.val % 128 : Nat) : Int) := by decide +kernel
  exact this ⟨c.toNat, c.toNat_lt⟩
theorem or_add {n m i : Nat} (hn : n < 128 ^ i) : n ||| (m * 128 ^ i) = n + m * 128 ^ i := by
  have := Nat.two_pow_add_eq_or_of_lt (i := 7 * i) (b := n) (by rw [pow7]; exact hn) m
  rw [pow7] at this
  rw [Nat.or_comm, Nat.mul_comm, ← this, Nat.add_comm]
theorem next_lt {n c i : Nat} (hn : n < 128 ^ i) (hc : c < 128) : n + c * 128 ^ i < 128 ^ (i + 1) := by
  have : c * 128 ^ i ≤ 127 * 128 ^ i := Nat.mul_le_mul_right _ (by omega)
  rw [Nat.pow_succ]
  omega
theorem w64 (b : List UInt8) (a : Int) (hb : b.length < 1000000000000000) (ha : -9223372036854775808 ≤ a ∧ a < 9223372036854775808) (Q : Ex → Slots → LH → Prop) (hQ : ∀ σ H, Slots.get σ 4 = .c (.int .i64 ((rdU b a).1)) → Slots.get σ 5 = .c (.int .i64 ((rdU b a).2.1)) → Slots.get σ 6 = .c (.int .i64 ((rdU b a).2.2)) → Q .ret σ H) : rnC Try.prog b64 Q [(0, .c (.sl 1 (bys b))), (1, .c (.int .i64 a))] [] := by
  unfold b64
  simp only [go_sem, ↓reduceIte, Nat.reduceEqDiff, Nat.reduceMul, Nat.reduceAdd, Nat.reduceDiv, Nat.reduceSub, Nat.reduceLT, Nat.reduceLeDiff, Int.reduceLE, Int.reduceLT, Int.reduceToNat, Int.reduceEq]
  refine ⟨fun h => ?_, fun h => ?_⟩
  · have e : rdU b a = (0, 0, 1) := by unfold rdU; rw [if_pos h]
    rw [e] at hQ
    exact hQ _ _ rfl rfl rfl
  obtain ⟨an, rfl⟩ := Int.eq_ofNat_of_zero_le h.1
  have han : an ≤ b.length := by have := h.2; omega
  have e0 : rdU b (an : Int) = rdGo an 9 (b.drop an) 0 := by unfold rdU; rw [if_neg (by omega)]; rfl
  rw [e0] at hQ
  refine loopR.by (α := Nat × Nat) (fun p => [(0, .c (.sl 1 (bys b))), (1, .c (.int .i64 an)), (4, .c (.int .i64 p.2)), (17, .c (.int .i64 p.1))]) (fun p => []) (fun p => 9 - p.1) (fun p => p.1 ≤ 9 ∧ p.2 < 128 ^ p.1 ∧ rdGo an (9 - p.1) (b.drop (an + p.1)) p.2 = rdGo an 9 (b.drop an) 0) (0, 0) ⟨by simp, by simp, rfl⟩ ?_ ?_
  · intro Y hY
    simp only [go_sem, ↓reduceIte, Nat.reduceEqDiff, Nat.reduceMul, Nat.reduceAdd, Nat.reduceDiv, Nat.reduceSub, Nat.reduceLT, Nat.reduceLeDiff, Int.reduceLE, Int.reduceLT, Int.reduceToNat, Int.reduceEq, n64_0]
    exact hY
  intro p hp Y hY
  obtain ⟨i, n⟩ := p
  obtain ⟨hi, hn, heq⟩ := hp
  simp only at hi hn heq
  have hw : IntKind.i64.wrap ((an : Int) + (i : Int)) = ((an + i : Nat) : Int) := by rw [wrap_i64]; omega
  have hw7 : IntKind.i64.wrap (7 * (i : Int)) = ((7 * i : Nat) : Int) := by rw [wrap_i64]; omega
  unfold l64_0
  rcases Nat.lt_or_ge i 9 with hi9 | hi9
  · have e9 : 9 - i = (8 - i) + 1 := by omega
    rcases Nat.lt_or_ge (an + i) b.length with hlt | hge
    · have eb := bys_at hlt
      have hd : b.drop (an + i) = b[an + i] :: b.drop (an + i + 1) := List.drop_eq_getElem_cons hlt
      generalize b[an + i] = c at eb hd
      have hc : c.toNat < 256 := c.toNat_lt
      rw [e9, hd, rdGo] at heq
      have e8 : 8 - (8 - i) = i := by omega
      rw [e8] at heq
      have hv : bitI .or .i64 (n : Int) (IntKind.i64.wrap (IntKind.i64.wrap (bitI .and .u8 (c.toNat : Int) 127) * 2 ^ min (IntKind.i64.wrap (7 * (i : Int))).toNat 64)) = ((n + c.toNat % 128 * 128 ^ i : Nat) : Int) := by
        rw [hw7, Int.toNat_natCast, Nat.min_eq_left (by omega), and127,
          show IntKind.i64.wrap (((c.toNat % 128 : Nat) : Int)) = ((c.toNat % 128 : Nat) : Int) by rw [wrap_i64]; omega,
          show (2 : Int) ^ (7 * i) = ((128 ^ i : Nat) : Int) by rw [← pow7]; norm_cast, ← Int.natCast_mul]
        have hb2 := next_lt hn (show c.toNat % 128 < 128 by omega)
        have hb3 := pow_le9 (show i + 1 ≤ 9 by omega)
        rw [show IntKind.i64.wrap (((c.toNat % 128 * 128 ^ i : Nat)) : Int) = ((c.toNat % 128 * 128 ^ i : Nat) : Int) by rw [wrap_i64]; omega]
        rw [bit_or (by omega) (by omega), or_add hn]
      simp only [go_sem, ↓reduceIte, Nat.reduceEqDiff, Nat.reduceMul, Nat.reduceAdd, Nat.reduceDiv, Nat.reduceSub, Nat.reduceLT, Nat.reduceLeDiff, Int.reduceLE, Int.reduceLT, Int.reduceToNat, Int.reduceEq, n64_0, hw, eb, hv]
      refine ⟨fun _ => ⟨fun h => by omega, fun _ => ⟨by omega, by rw [hw7]; exact Int.natCast_nonneg _, fun hc1 => ?_, fun hc1 => ?_⟩⟩, fun h => by omega⟩
      · rw [if_pos (by omega)] at heq
        refine ⟨fun h0 => ?_, fun h0 => ?_⟩
        · rw [if_pos (by omega)] at heq
          rw [← heq] at hQ
          exact hQ _ _ rfl rfl rfl
        · rw [if_neg (by omega)] at heq
          rw [← heq] at hQ
          refine hQ _ _ ?_ ?_ rfl
          · simp only [go_sem, ↓reduceIte, Nat.reduceEqDiff, Nat.reduceMul, Nat.reduceAdd, Nat.reduceDiv, Nat.reduceSub, Nat.reduceLT, Nat.reduceLeDiff, Int.reduceLE, Int.reduceLT, Int.reduceToNat, Int.reduceEq]
            rw [Nat.mod_eq_of_lt (by omega)]
          · simp only [go_sem, ↓reduceIte, Nat.reduceEqDiff, Nat.reduceMul, Nat.reduceAdd, Nat.reduceDiv, Nat.reduceSub, Nat.reduceLT, Nat.reduceLeDiff, Int.reduceLE, Int.reduceLT, Int.reduceToNat, Int.reduceEq]
            congr 2
            rw [wrap_i64]; omega
      · rw [if_neg (by omega)] at heq
        have := hY (i + 1, n + c.toNat % 128 * 128 ^ i) ⟨by simp only; omega, next_lt hn (by omega), by
          simp only
          rw [show 9 - (i + 1) = 8 - i by omega, show c.toNat % 128 = c.toNat - 128 by omega]
          exact heq⟩ (by simp only; omega)
        rw [succ64 hi9 (by omega)]
        exact this
    · have hd : b.drop (an + i) = [] := List.drop_eq_nil_of_le hge
      rw [e9, hd, rdGo] at heq
      rw [← heq] at hQ
      simp only [go_sem, ↓reduceIte, Nat.reduceEqDiff, Nat.reduceMul, Nat.reduceAdd, Nat.reduceDiv, Nat.reduceSub, Nat.reduceLT, Nat.reduceLeDiff, Int.reduceLE, Int.reduceLT, Int.reduceToNat, Int.reduceEq, n64_0, hw, bys_out hge]
      refine ⟨fun _ => ⟨fun h => hQ _ _ rfl rfl rfl, fun h => by omega⟩, fun h => by omega⟩
  · have : i = 9 := by omega
    subst this
    rw [rdGo] at heq
    rw [← heq] at hQ
    rcases Nat.lt_or_ge (an + 9) b.length with hlt | hge
    · simp only [go_sem, ↓reduceIte, Nat.reduceEqDiff, Nat.reduceMul, Nat.reduceAdd, Nat.reduceDiv, Nat.reduceSub, Nat.reduceLT, Nat.reduceLeDiff, Int.reduceLE, Int.reduceLT, Int.reduceToNat, Int.reduceEq, n64_0, hw, bys_at hlt]
      exact ⟨fun h => by omega, fun _ => hQ _ _ rfl rfl rfl⟩
    · simp only [go_sem, ↓reduceIte, Nat.reduceEqDiff, Nat.reduceMul, Nat.reduceAdd, Nat.reduceDiv, Nat.reduceSub, Nat.reduceLT, Nat.reduceLeDiff, Int.reduceLE, Int.reduceLT, Int.reduceToNat, Int.reduceEq, n64_0, hw, bys_out hge]
      exact ⟨fun h => by omega, fun _ => hQ _ _ rfl rfl rfl⟩
theorem cw64 (b : List UInt8) (a : Int) (hb : b.length < 1000000000000000) (ha : -9223372036854775808 ≤ a ∧ a < 9223372036854775808) : CW Try.prog 64 [.cv (.sl 1 (bys b)), .cv (.int .i64 a)] ⟨[.cv (.int .i64 ((rdU b a).1)), .cv (.int .i64 ((rdU b a).2.1)), .cv (.int .i64 ((rdU b a).2.2))], []⟩ :=
  top64 rfl rfl [] trivial (w64 b a hb ha _ fun σ H h h' h'' => ret3 rfl h h' h'')
theorem w105 (b : List UInt8) (a : Int) (hb : b.length < 1000000000000000) (ha : -9223372036854775808 ≤ a ∧ a < 9223372036854775808) (Q : Ex → Slots → LH → Prop) (hQ : ∀ σ H, Slots.get σ 4 = .c (.int .i64 ((rdU b a).1)) → Slots.get σ 5 = .c (.int .i64 ((rdU b a).2.1)) → Slots.get σ 6 = .c (.int .i64 ((rdU b a).2.2)) → Q .ret σ H) : rnC Try.prog b105 Q [(0, .c (.sl 1 (bys b))), (1, .c (.int .i64 a))] [] := by
  unfold b105
  simp only [go_sem, ↓reduceIte, Nat.reduceEqDiff, Nat.reduceMul, Nat.reduceAdd, Nat.reduceDiv, Nat.reduceSub, Nat.reduceLT, Nat.reduceLeDiff, Int.reduceLE, Int.reduceLT, Int.reduceToNat, Int.reduceEq]
  refine ⟨fun h => ?_, fun h => ?_⟩
  · have e : rdU b a = (0, 0, 1) := by unfold rdU; rw [if_pos h]
    rw [e] at hQ
    exact hQ _ _ rfl rfl rfl
  obtain ⟨an, rfl⟩ := Int.eq_ofNat_of_zero_le h.1
  have han : an ≤ b.length := by have := h.2; omega
  have e0 : rdU b (an : Int) = rdGo an 9 (b.drop an) 0 := by unfold rdU; rw [if_neg (by omega)]; rfl
  rw [e0] at hQ
  refine loopR.by (α := Nat × Nat) (fun p => [(0, .c (.sl 1 (bys b))), (1, .c (.int .i64 an)), (7, .c (.int .i64 p.2)), (8, .c (.int .i64 p.1))]) (fun p => []) (fun p => 9 - p.1) (fun p => an + p.1 ≤ b.length ∧ p.1 ≤ 9 ∧ p.2 < 128 ^ p.1 ∧ rdGo an (9 - p.1) (b.drop (an + p.1)) p.2 = rdGo an 9 (b.drop an) 0) (0, 0) ⟨by simpa using han, by simp, by simp, rfl⟩ ?_ ?_
  · intro Y hY
    simp only [go_sem, ↓reduceIte, Nat.reduceEqDiff, Nat.reduceMul, Nat.reduceAdd, Nat.reduceDiv, Nat.reduceSub, Nat.reduceLT, Nat.reduceLeDiff, Int.reduceLE, Int.reduceLT, Int.reduceToNat, Int.reduceEq, n105_0]
    exact hY
  intro p hp Y hY
  obtain ⟨i, n⟩ := p
  obtain ⟨hab, hi, hn, heq⟩ := hp
  simp only at hab hi hn heq
  have hw : IntKind.i64.wrap ((an : Int) + (i : Int)) = ((an + i : Nat) : Int) := by rw [wrap_i64]; omega
  have hw7 : IntKind.i64.wrap (7 * (i : Int)) = ((7 * i : Nat) : Int) := by rw [wrap_i64]; omega
  unfold l105_0
  rcases Nat.lt_or_ge i 9 with hi9 | hi9
  · have e9 : 9 - i = (8 - i) + 1 := by omega
    rcases Nat.lt_or_ge (an + i) b.length with hlt | hge
    · have eb := bys_at hlt
      have hd : b.drop (an + i) = b[an + i] :: b.drop (an + i + 1) := List.drop_eq_getElem_cons hlt
      generalize b[an + i] = c at eb hd
      have hc : c.toNat < 256 := c.toNat_lt
      rw [e9, hd, rdGo] at heq
      have e8 : 8 - (8 - i) = i := by omega
      rw [e8] at heq
      have hc8 : IntKind.i64.wrap (c.toNat : Int) = (c.toNat : Int) := by rw [wrap_i64]; omega
      have hu7 : IntKind.u64.wrap ((7 * i : Nat) : Int) = ((7 * i : Nat) : Int) := by rw [wrap_u64]; omega
      have hv : IntKind.i64.wrap ((n : Int) + IntKind.i64.wrap ((c.toNat : Int).tmod 128 * 2 ^ min (IntKind.u64.wrap (IntKind.i64.wrap (7 * (i : Int)))).toNat 64)) = ((n + c.toNat % 128 * 128 ^ i : Nat) : Int) := by
        rw [hw7, hu7, Int.toNat_natCast, Nat.min_eq_left (by omega), show (c.toNat : Int).tmod 128 = ((c.toNat % 128 : Nat) : Int) by rw [Int.tmod_eq_emod_of_nonneg (by omega)]; rfl,
          show (2 : Int) ^ (7 * i) = ((128 ^ i : Nat) : Int) by rw [← pow7]; norm_cast, ← Int.natCast_mul]
        have hb2 := next_lt hn (show c.toNat % 128 < 128 by omega)
        have hb3 := pow_le9 (show i + 1 ≤ 9 by omega)
        rw [show IntKind.i64.wrap (((c.toNat % 128 * 128 ^ i : Nat)) : Int) = ((c.toNat % 128 * 128 ^ i : Nat) : Int) by rw [wrap_i64]; omega]
        rw [wrap_i64]; omega
      simp only [go_sem, ↓reduceIte, Nat.reduceEqDiff, Nat.reduceMul, Nat.reduceAdd, Nat.reduceDiv, Nat.reduceSub, Nat.reduceLT, Nat.reduceLeDiff, Int.reduceLE, Int.reduceLT, Int.reduceToNat, Int.reduceEq, n105_0, hw, eb, hc8, hv]
      refine ⟨fun _ => ⟨fun h => by omega, fun _ => ?_⟩, fun h => by omega⟩
      first
        | refine ⟨by omega, by rw [hw7]; exact Int.natCast_nonneg _, fun hc1 => ?_, fun hc1 => ?_⟩
        | refine ⟨by omega, fun hc1 => ?_, fun hc1 => ?_⟩
        | refine ⟨fun hc1 => ?_, fun hc1 => ?_⟩
      · rw [if_pos (by omega)] at heq
        refine ⟨fun h0 => ?_, fun h0 => ?_⟩
        · rw [if_pos (by omega)] at heq
          rw [← heq] at hQ
          exact hQ _ _ rfl rfl rfl
        · rw [if_neg (by omega)] at heq
          rw [← heq] at hQ
          refine hQ _ _ ?_ ?_ rfl
          · simp only [go_sem, ↓reduceIte, Nat.reduceEqDiff, Nat.reduceMul, Nat.reduceAdd, Nat.reduceDiv, Nat.reduceSub, Nat.reduceLT, Nat.reduceLeDiff, Int.reduceLE, Int.reduceLT, Int.reduceToNat, Int.reduceEq]
            rw [Nat.mod_eq_of_lt (by omega)]
          · simp only [go_sem, ↓reduceIte, Nat.reduceEqDiff, Nat.reduceMul, Nat.reduceAdd, Nat.reduceDiv, Nat.reduceSub, Nat.reduceLT, Nat.reduceLeDiff, Int.reduceLE, Int.reduceLT, Int.reduceToNat, Int.reduceEq]
            congr 2
            rw [wrap_i64]; omega
      · rw [if_neg (by omega)] at heq
        have := hY (i + 1, n + c.toNat % 128 * 128 ^ i) ⟨by simp only; omega, by simp only; omega, next_lt hn (by omega), by
          simp only
          rw [show 9 - (i + 1) = 8 - i by omega, show c.toNat % 128 = c.toNat - 128 by omega]
          exact heq⟩ (by simp only; omega)
        rw [succ64 hi9 (by omega)]
        exact this
    · have hd : b.drop (an + i) = [] := List.drop_eq_nil_of_le hge
      rw [e9, hd, rdGo] at heq
      rw [← heq] at hQ
      simp only [go_sem, ↓reduceIte, Nat.reduceEqDiff, Nat.reduceMul, Nat.reduceAdd, Nat.reduceDiv, Nat.reduceSub, Nat.reduceLT, Nat.reduceLeDiff, Int.reduceLE, Int.reduceLT, Int.reduceToNat, Int.reduceEq, n105_0, hw, bys_out hge]
      refine ⟨fun _ => ⟨fun h => hQ _ _ rfl rfl rfl, fun h => by omega⟩, fun h => by omega⟩
  · have : i = 9 := by omega
    subst this
    rw [rdGo] at heq
    rw [← heq] at hQ
    rcases Nat.lt_or_ge (an + 9) b.length with hlt | hge
    · simp only [go_sem, ↓reduceIte, Nat.reduceEqDiff, Nat.reduceMul, Nat.reduceAdd, Nat.reduceDiv, Nat.reduceSub, Nat.reduceLT, Nat.reduceLeDiff, Int.reduceLE, Int.reduceLT, Int.reduceToNat, Int.reduceEq, n105_0, hw, bys_at hlt]
      exact ⟨fun h => by omega, fun _ => hQ _ _ rfl rfl rfl⟩
    · simp only [go_sem, ↓reduceIte, Nat.reduceEqDiff, Nat.reduceMul, Nat.reduceAdd, Nat.reduceDiv, Nat.reduceSub, Nat.reduceLT, Nat.reduceLeDiff, Int.reduceLE, Int.reduceLT, Int.reduceToNat, Int.reduceEq, n105_0, hw, bys_out hge]
      exact ⟨fun h => by omega, fun _ => hQ _ _ rfl rfl rfl⟩
theorem cw105 (b : List UInt8) (a : Int) (hb : b.length < 1000000000000000) (ha : -9223372036854775808 ≤ a ∧ a < 9223372036854775808) : CW Try.prog 105 [.cv (.sl 1 (bys b)), .cv (.int .i64 a)] ⟨[.cv (.int .i64 ((rdU b a).1)), .cv (.int .i64 ((rdU b a).2.1)), .cv (.int .i64 ((rdU b a).2.2))], []⟩ :=
  top105 rfl rfl [] trivial (w105 b a hb ha _ fun σ H h h' h'' => ret3 rfl h h' h'')
theorem calls69 (a0 : Nat) (w : World) :
    Calls Try.prog 69 #[.float .f64 a0] w fun e w' => e = .returned (.int .u64 a0) ∧ w'.heap = w.heap ∧ w'.os = w.os ∧ w'.tape = w.tape ∧ w'.output = w.output := by
  have hd : ∀ (b : Nat) (w : World), (callFunc 108 #[.float .f64 b]).run Try.prog w = .ok (.value (.int .u64 b)) w := fun b w => by
    rw [run_callFunc_extern (e := Extern.MathFloatBits.float64bits) Try.func108 (by kernel_rfl) (by kernel_rfl) (by kernel_rfl) (by kernel_rfl)]
    rfl
  go_enter Try.func69, Try.ntmps69
  go_wp2
  go_ret
  exact ⟨rfl, rfl, rfl, rfl, rfl⟩
theorem argsOb_cv (base : Nat) : ∀ (cs : List CV) (j : Nat), argsOb base (cs.map .cv) j = []
  | [], _ => rfl
  | c :: cs, j => by simp only [List.map_cons, argsOb, Arg.ob, List.nil_append]; exact argsOb_cv base cs (j + 1)
theorem argsAV_cv (base : Nat) : ∀ (cs : List CV) (j : Nat), argsAV base (cs.map .cv) j = cs.map .c
  | [], _ => rfl
  | c :: cs, j => by simp only [List.map_cons, argsAV, Arg.av]; rw [argsAV_cv base cs (j + 1)]
theorem backArgs_cv : ∀ (cs : List CV), backArgs (cs.map .cv) [] = (cs.map fun _ => CV.undef).map .cv
  | [] => rfl
  | c :: cs => by simp only [List.map_cons, backArgs]; rw [backArgs_cv cs]
theorem backOK_cv : ∀ (cs : List CV), backOK (cs.map .cv) []
  | [] => trivial
  | c :: cs => backOK_cv cs
theorem CW_pure {P : Program} {f : FuncId} {cs : List CV} {r : CV} (hfn : isFn P f = true) (hr : r.scalar = true)
    (h : ∀ (w : World) (S : Nat → Nat → Prop) (vals : List Value), vals.length = cs.length → (∀ j, j < cs.length → VR w S (cs.getD j .undef) (vals.getD j Go.undef)) →
      ∃ v, VR w S r v ∧ Calls P f vals.toArray w fun e w' => e = .returned v ∧ w'.heap = w.heap ∧ w'.os = w.os ∧ w'.tape = w.tape ∧ w'.output = w.output) :
    CW P f (cs.map .cv) ⟨[.cv r], []⟩ := by
  refine ⟨hfn, backOK_cv cs, fun ι S w vals hl hav hhr => ?_⟩
  rw [argsOb_cv] at hav hhr
  have hl' : vals.length = cs.length := by simpa using hl
  obtain ⟨v, hv, hc⟩ := h w S vals hl' (fun j hj => by
    have := hav j (by simpa using hj)
    rw [argsAV_cv] at this
    have e : (cs.map AV.c).getD j (.c .undef) = .c (cs.getD j .undef) := by simp [List.getD_eq_getElem?_getD, hj]
    rw [e] at this
    cases this with
    | c _ _ h => exact h)
  have hro : retOb (cs.map .cv) ⟨[.cv r], []⟩ = [] := by
    unfold retOb
    rw [backArgs_cv, argsOb_cv]
    rfl
  refine hc.mono fun e w' he => ?_
  obtain ⟨rfl, hh, ho, ht, hp⟩ := he
  refine ⟨v, ι, S, rfl, ?_, ?_, fun j hj => .inl rfl, ?_, fun b _ hb => hb, fun b _ hb => .inl hb, ⟨ho, ht, hp, by rw [hh]; exact Nat.le_refl _, fun k _ _ => by rw [hh]⟩⟩
  · exact .c _ _ (hv.scalar hr)
  · rw [hro]
    exact ⟨fun id cs h => (by cases h), fun id e xs h => (by cases h), fun id e xs h => (by cases h), fun i j hi => (by cases hi), fun i hi => (by cases hi), fun i hi => (by cases hi), fun b _ hb => by rw [hh]; exact hhr.slt b hb⟩
  · intro id hid
    rw [hro] at hid
    cases hid
theorem cw69 (x : Nat) : CW Try.prog 69 [.cv (.flt x)] ⟨[.cv (.int .u64 x)], []⟩ :=
  CW_pure (cs := [.flt x]) (by decide +kernel) rfl fun w S vals hl hv => by
    match vals, hl with
    | [v], _ =>
      have h0 := hv 0 (by simp)
      simp only [List.getD_cons_zero] at h0
      cases h0
      exact ⟨_, .int _ _, calls69 x w⟩
def b93 : IC := (.seq (.reg [⟨(some 2), 0, none, .mv (.c .nilsl)⟩]) (.seq (.reg [⟨(some 3), 0, none, .mv (.t 0)⟩,
  ⟨(some 4), 0, none, .len true (.t 3)⟩,
  ⟨(some 5), 1, none, .call (.c (.fn 56)) [((.t 4), .plain)]⟩,
  ⟨(some 6), 0, none, .mv (.t 0)⟩,
  ⟨(some 7), 11, none, .app (.t 5) (.t 6) 1 1 true⟩,
  ⟨(some 2), 0, none, .mv (.t 7)⟩]) .ret))
def rs93 : List (Nat × Option Nat × Mode) := [(2, none, .move 1)]
theorem chk93 : chkC Try.prog Try.f93.ntmps b93 (Try.f93.body.getD .skip) = true := by decide +kernel
theorem top93 {args : List Arg} {out : Out} (ha : args.length.ble Try.f93.ntmps = true) (h8 : args.length.ble 8 = true) (mss : List (List (Option Nat))) (hb : backOK args out.back)
    (hw : rnC Try.prog b93 (topQ rs93 args mss out) (slotsOf (argsAV argBase args 0) 0) (argsOb argBase args 0)) : CW Try.prog 93 args out :=
  CW.of Try.func93 rs93 mss (by decide +kernel) (by decide +kernel) (by decide +kernel) ha h8 chk93 hb hw
def b133 : IC := (.seq (.reg [⟨(some 6), 0, none, .mv (.c .nilsl)⟩,
  ⟨(some 7), 0, none, .mv (.c (.bool false))⟩]) (.seq (.seq (.reg [⟨(some 8), 0, none, .mv (.t 2)⟩,
  ⟨(some 9), 0, none, .mv (.t 0)⟩,
  ⟨(some 10), 0, none, .len false (.t 9)⟩,
  ⟨(some 11), 0, none, .mv (.t 1)⟩,
  ⟨(some 12), 0, none, .bin .sub (.t 10) (.t 11)⟩,
  ⟨(some 13), 0, none, .bin .gtr (.t 8) (.t 12)⟩]) (.cond (.t 13) (.seq (.reg [⟨(some 6), 0, none, .mv (.c .nilsl)⟩,
  ⟨(some 7), 0, none, .mv (.c (.bool false))⟩]) .ret) .skip)) (.seq (.reg [⟨(some 14), 0, none, .mv (.t 0)⟩,
  ⟨(some 15), 0, none, .mv (.t 1)⟩,
  ⟨(some 16), 0, none, .mv (.t 1)⟩,
  ⟨(some 17), 0, none, .mv (.t 2)⟩,
  ⟨(some 18), 0, none, .bin .add (.t 16) (.t 17)⟩,
  ⟨(some 19), 0, none, .mv (.t 1)⟩,
  ⟨(some 20), 0, none, .mv (.t 2)⟩,
  ⟨(some 21), 0, none, .bin .add (.t 19) (.t 20)⟩,
  ⟨(some 22), 0, none, .slc (.t 14) (some (.t 15)) (some (.t 18)) (some (.t 21)) 1⟩,
  ⟨(some 6), 0, none, .mv (.t 22)⟩,
  ⟨(some 7), 0, none, .mv (.c (.bool true))⟩]) .ret)))
def rs133 : List (Nat × Option Nat × Mode) := [(6, none, .plain), (7, none, .plain)]
theorem chk133 : chkC Try.prog Try.f133.ntmps b133 (Try.f133.body.getD .skip) = true := by decide +kernel
theorem top133 {args : List Arg} {out : Out} (ha : args.length.ble Try.f133.ntmps = true) (h8 : args.length.ble 8 = true) (mss : List (List (Option Nat))) (hb : backOK args out.back)
    (hw : rnC Try.prog b133 (topQ rs133 args mss out) (slotsOf (argsAV argBase args 0) 0) (argsOb argBase args 0)) : CW Try.prog 133 args out :=
  CW.of Try.func133 rs133 mss (by decide +kernel) (by decide +kernel) (by decide +kernel) ha h8 chk133 hb hw
def b124 : IC := (.seq (.reg [⟨(some 6), 0, none, .mv (.c (.str ⟨#[]⟩))⟩,
  ⟨(some 7), 0, none, .mv (.c (.int .i64 0))⟩,
  ⟨(some 8), 0, none, .mv (.c (.int .i64 0))⟩]) (.seq (.seq (.reg [⟨(some 12), 0, none, .mv (.t 1)⟩,
  ⟨(some 13), 0, none, .bin .lss (.t 12) (.c (.int .i64 0))⟩,
  ⟨(some 14), 0, none, .mv (.t 13)⟩,
  ⟨(some 15), 0, (some (14, false)), .mv (.t 1)⟩,
  ⟨(some 16), 0, (some (14, false)), .mv (.t 0)⟩,
  ⟨(some 17), 0, (some (14, false)), .len false (.t 16)⟩,
  ⟨(some 18), 0, (some (14, false)), .bin .gtr (.t 15) (.t 17)⟩,
  ⟨(some 19), 0, none, .pick (.t 14) (.c (.bool true)) (.t 18)⟩,
  ⟨(some 20), 0, none, .mv (.t 19)⟩,
  ⟨(some 21), 0, (some (20, false)), .mv (.t 2)⟩,
  ⟨(some 22), 0, (some (20, false)), .bin .lss (.t 21) (.c (.int .i64 0))⟩,
  ⟨(some 23), 0, none, .pick (.t 20) (.c (.bool true)) (.t 22)⟩]) (.cond (.t 23) (.seq (.reg [⟨(some 6), 0, none, .mv (.c (.str ⟨#[]⟩))⟩,
  ⟨(some 7), 0, none, .mv (.c (.int .i64 0))⟩,
  ⟨(some 8), 0, none, .mv (.c (.int .i64 1))⟩]) .ret) .skip)) (.seq (.reg [⟨(some 25), 0, none, .mv (.t 0)⟩,
  ⟨(some 26), 0, none, .mv (.t 1)⟩,
  ⟨(some 27), 1, none, .call (.c (.fn 64)) [((.t 25), .view 1), ((.t 26), .plain)]⟩,
  ⟨(some 24), 0, none, .mv (.t 27)⟩,
  ⟨(some 28), 0, none, .ext (.t 24) 0⟩,
  ⟨(some 29), 0, none, .ext (.t 24) 1⟩,
  ⟨(some 30), 0, none, .ext (.t 24) 2⟩,
  ⟨(some 9), 0, none, .mv (.t 28)⟩,
  ⟨(some 7), 0, none, .mv (.t 29)⟩,
  ⟨(some 8), 0, none, .mv (.t 30)⟩]) (.seq (.seq (.reg [⟨(some 31), 0, none, .mv (.t 8)⟩,
  ⟨(some 32), 0, none, .bin .neq (.t 31) (.c (.int .i64 0))⟩]) (.cond (.t 32) (.seq (.reg [⟨(some 33), 0, none, .mv (.t 8)⟩,
  ⟨(some 6), 0, none, .mv (.c (.str ⟨#[]⟩))⟩,
  ⟨(some 7), 0, none, .mv (.c (.int .i64 0))⟩,
  ⟨(some 8), 0, none, .mv (.t 33)⟩]) .ret) .skip)) (.seq (.seq (.reg [⟨(some 34), 0, none, .mv (.t 9)⟩,
  ⟨(some 35), 0, none, .mv (.t 2)⟩,
  ⟨(some 36), 0, none, .bin .gtr (.t 34) (.t 35)⟩]) (.cond (.t 36) (.seq (.reg [⟨(some 6), 0, none, .mv (.c (.str ⟨#[]⟩))⟩,
  ⟨(some 7), 0, none, .mv (.c (.int .i64 0))⟩,
  ⟨(some 8), 0, none, .mv (.c (.int .i64 3))⟩]) .ret) .skip)) (.seq (.reg [⟨(some 38), 0, none, .mv (.t 0)⟩,
  ⟨(some 39), 0, none, .mv (.t 7)⟩,
  ⟨(some 40), 0, none, .mv (.t 9)⟩,
  ⟨(some 41), 11, none, .call (.c (.fn 133)) [((.t 38), .view 1), ((.t 39), .plain), ((.t 40), .plain)]⟩,
  ⟨(some 37), 0, none, .mv (.t 41)⟩,
  ⟨(some 42), 0, none, .ext (.t 37) 0⟩,
  ⟨(some 43), 0, none, .ext (.t 37) 1⟩,
  ⟨(some 10), 0, none, .mv (.t 42)⟩,
  ⟨(some 11), 0, none, .mv (.t 43)⟩]) (.seq (.seq (.reg [⟨(some 44), 0, none, .mv (.t 11)⟩,
  ⟨(some 45), 0, none, .not (.t 44)⟩]) (.cond (.t 45) (.seq (.reg [⟨(some 6), 0, none, .mv (.c (.str ⟨#[]⟩))⟩,
  ⟨(some 7), 0, none, .mv (.c (.int .i64 0))⟩,
  ⟨(some 8), 0, none, .mv (.c (.int .i64 10))⟩]) .ret) .skip)) (.seq (.reg [⟨(some 46), 0, none, .mv (.t 10)⟩,
  ⟨(some 47), 0, none, .b2s (.t 46)⟩,
  ⟨(some 48), 0, none, .mv (.t 7)⟩,
  ⟨(some 49), 0, none, .mv (.t 9)⟩,
  ⟨(some 50), 0, none, .bin .add (.t 48) (.t 49)⟩,
  ⟨(some 6), 0, none, .mv (.t 47)⟩,
  ⟨(some 7), 0, none, .mv (.t 50)⟩,
  ⟨(some 8), 0, none, .mv (.c (.int .i64 0))⟩]) .ret))))))))
def rs124 : List (Nat × Option Nat × Mode) := [(6, none, .plain), (7, none, .plain), (8, none, .plain)]
theorem chk124 : chkC Try.prog Try.f124.ntmps b124 (Try.f124.body.getD .skip) = true := by decide +kernel
theorem top124 {args : List Arg} {out : Out} (ha : args.length.ble Try.f124.ntmps = true) (h8 : args.length.ble 8 = true) (mss : List (List (Option Nat))) (hb : backOK args out.back)
    (hw : rnC Try.prog b124 (topQ rs124 args mss out) (slotsOf (argsAV argBase args 0) 0) (argsOb argBase args 0)) : CW Try.prog 124 args out :=
  CW.of Try.func124 rs124 mss (by decide +kernel) (by decide +kernel) (by decide +kernel) ha h8 chk124 hb hw
def b135 : IC := (.seq (.reg [⟨(some 6), 0, none, .mv (.c (.str ⟨#[]⟩))⟩,
  ⟨(some 7), 0, none, .mv (.c (.int .i64 0))⟩,
  ⟨(some 8), 0, none, .mv (.c (.int .i64 0))⟩]) (.seq (.seq (.reg [⟨(some 12), 0, none, .mv (.t 1)⟩,
  ⟨(some 13), 0, none, .bin .lss (.t 12) (.c (.int .i64 0))⟩,
  ⟨(some 14), 0, none, .mv (.t 13)⟩,
  ⟨(some 15), 0, (some (14, false)), .mv (.t 1)⟩,
  ⟨(some 16), 0, (some (14, false)), .mv (.t 0)⟩,
  ⟨(some 17), 0, (some (14, false)), .len false (.t 16)⟩,
  ⟨(some 18), 0, (some (14, false)), .bin .gtr (.t 15) (.t 17)⟩,
  ⟨(some 19), 0, none, .pick (.t 14) (.c (.bool true)) (.t 18)⟩,
  ⟨(some 20), 0, none, .mv (.t 19)⟩,
  ⟨(some 21), 0, (some (20, false)), .mv (.t 2)⟩,
  ⟨(some 22), 0, (some (20, false)), .bin .lss (.t 21) (.c (.int .i64 0))⟩,
  ⟨(some 23), 0, none, .pick (.t 20) (.c (.bool true)) (.t 22)⟩]) (.cond (.t 23) (.seq (.reg [⟨(some 6), 0, none, .mv (.c (.str ⟨#[]⟩))⟩,
  ⟨(some 7), 0, none, .mv (.c (.int .i64 0))⟩,
  ⟨(some 8), 0, none, .mv (.c (.int .i64 1))⟩]) .ret) .skip)) (.seq (.reg [⟨(some 25), 0, none, .mv (.t 0)⟩,
  ⟨(some 26), 0, none, .mv (.t 1)⟩,
  ⟨(some 27), 1, none, .call (.c (.fn 105)) [((.t 25), .view 1), ((.t 26), .plain)]⟩,
  ⟨(some 24), 0, none, .mv (.t 27)⟩,
  ⟨(some 28), 0, none, .ext (.t 24) 0⟩,
  ⟨(some 29), 0, none, .ext (.t 24) 1⟩,
  ⟨(some 30), 0, none, .ext (.t 24) 2⟩,
  ⟨(some 9), 0, none, .mv (.t 28)⟩,
  ⟨(some 10), 0, none, .mv (.t 29)⟩,
  ⟨(some 11), 0, none, .mv (.t 30)⟩]) (.seq (.seq (.reg [⟨(some 31), 0, none, .mv (.t 11)⟩,
  ⟨(some 32), 0, none, .bin .neq (.t 31) (.c (.int .i64 0))⟩]) (.cond (.t 32) (.seq (.reg [⟨(some 33), 0, none, .mv (.t 11)⟩,
  ⟨(some 6), 0, none, .mv (.c (.str ⟨#[]⟩))⟩,
  ⟨(some 7), 0, none, .mv (.c (.int .i64 0))⟩,
  ⟨(some 8), 0, none, .mv (.t 33)⟩]) .ret) .skip)) (.seq (.seq (.reg [⟨(some 34), 0, none, .mv (.t 9)⟩,
  ⟨(some 35), 0, none, .mv (.t 2)⟩,
  ⟨(some 36), 0, none, .bin .gtr (.t 34) (.t 35)⟩]) (.cond (.t 36) (.seq (.reg [⟨(some 6), 0, none, .mv (.c (.str ⟨#[]⟩))⟩,
  ⟨(some 7), 0, none, .mv (.c (.int .i64 0))⟩,
  ⟨(some 8), 0, none, .mv (.c (.int .i64 3))⟩]) .ret) .skip)) (.seq (.seq (.reg [⟨(some 37), 0, none, .mv (.t 9)⟩,
  ⟨(some 38), 0, none, .mv (.t 0)⟩,
  ⟨(some 39), 0, none, .len false (.t 38)⟩,
  ⟨(some 40), 0, none, .mv (.t 10)⟩,
  ⟨(some 41), 0, none, .bin .sub (.t 39) (.t 40)⟩,
  ⟨(some 42), 0, none, .bin .gtr (.t 37) (.t 41)⟩]) (.cond (.t 42) (.seq (.reg [⟨(some 6), 0, none, .mv (.c (.str ⟨#[]⟩))⟩,
  ⟨(some 7), 0, none, .mv (.c (.int .i64 0))⟩,
  ⟨(some 8), 0, none, .mv (.c (.int .i64 10))⟩]) .ret) .skip)) (.seq (.reg [⟨(some 43), 0, none, .mv (.t 0)⟩,
  ⟨(some 44), 0, none, .mv (.t 10)⟩,
  ⟨(some 45), 0, none, .mv (.t 10)⟩,
  ⟨(some 46), 0, none, .mv (.t 9)⟩,
  ⟨(some 47), 0, none, .bin .add (.t 45) (.t 46)⟩,
  ⟨(some 48), 0, none, .slc (.t 43) (some (.t 44)) (some (.t 47)) none 1⟩,
  ⟨(some 49), 0, none, .b2s (.t 48)⟩,
  ⟨(some 50), 0, none, .mv (.t 10)⟩,
  ⟨(some 51), 0, none, .mv (.t 9)⟩,
  ⟨(some 52), 0, none, .bin .add (.t 50) (.t 51)⟩,
  ⟨(some 6), 0, none, .mv (.t 49)⟩,
  ⟨(some 7), 0, none, .mv (.t 52)⟩,
  ⟨(some 8), 0, none, .mv (.c (.int .i64 0))⟩]) .ret)))))))
def rs135 : List (Nat × Option Nat × Mode) := [(6, none, .plain), (7, none, .plain), (8, none, .plain)]
theorem chk135 : chkC Try.prog Try.f135.ntmps b135 (Try.f135.body.getD .skip) = true := by decide +kernel
theorem top135 {args : List Arg} {out : Out} (ha : args.length.ble Try.f135.ntmps = true) (h8 : args.length.ble 8 = true) (mss : List (List (Option Nat))) (hb : backOK args out.back)
    (hw : rnC Try.prog b135 (topQ rs135 args mss out) (slotsOf (argsAV argBase args 0) 0) (argsOb argBase args 0)) : CW Try.prog 135 args out :=
  CW.of Try.func135 rs135 mss (by decide +kernel) (by decide +kernel) (by decide +kernel) ha h8 chk135 hb hw
theorem calls134 (a0 : Int) (w : World) :
    Calls Try.prog 134 #[.int .u64 a0] w fun e w' => e = .returned (.float .f64 a0.toNat) ∧ w'.heap = w.heap ∧ w'.os = w.os ∧ w'.tape = w.tape ∧ w'.output = w.output := by
  have hd : ∀ (b : Int) (w : World), (callFunc 138 #[.int .u64 b]).run Try.prog w = .ok (.value (.float .f64 b.toNat)) w := fun b w => by
    rw [run_callFunc_extern (e := Extern.MathFloatBits.float64frombits) Try.func138 (by kernel_rfl) (by kernel_rfl) (by kernel_rfl) (by kernel_rfl)]
    rfl
  go_enter Try.func134, Try.ntmps134
  go_wp2
  go_ret
  exact ⟨rfl, rfl, rfl, rfl, rfl⟩
theorem cw134 (x : Int) : CW Try.prog 134 [.cv (.int .u64 x)] ⟨[.cv (.flt x.toNat)], []⟩ :=
  CW_pure (cs := [.int .u64 x]) (by decide +kernel) rfl fun w S vals hl hv => by
    match vals, hl with
    | [v], _ =>
      have h0 := hv 0 (by simp)
      simp only [List.getD_cons_zero] at h0
      cases h0
      exact ⟨_, .flt _, calls134 x w⟩
def textL (s : ByteArray) : List UInt8 := uintL s.size ++ s.data.toList
theorem strCells_bys (s : ByteArray) : strCells s = bys s.data.toList := rfl
theorem uintP_nat (n : Nat) : uintP (n : Int) = uintL n := by unfold uintP; rw [if_neg (by omega)]; rfl
theorem size_len (s : ByteArray) : s.data.toList.length = s.size := by rw [Array.length_toList]; rfl
theorem w93 (s : ByteArray) (hs : s.size < 1000000000000) (Q : Ex → Slots → LH → Prop) (hQ : ∀ σ H, OwnAt 1 (bys (textL s)) (Slots.get σ 2) H → Q .ret σ H) : rnC Try.prog b93 Q [(0, .c (.str s))] [] := by
  unfold b93
  simp only [go_sem, ↓reduceIte, Nat.reduceEqDiff, Nat.reduceMul, Nat.reduceAdd, Nat.reduceDiv, Nat.reduceSub, Nat.reduceLT, Nat.reduceLeDiff, Int.reduceLE, Int.reduceLT, Int.reduceToNat, Int.reduceEq]
  refine callK_O 1 (bys (uintP (s.size : Int))) (fun _ => cw56 (s.size : Int) (by omega)) (by simp only [go_sem, ↓reduceIte, Nat.reduceEqDiff, Nat.reduceMul, Nat.reduceAdd, Nat.reduceDiv, Nat.reduceSub, Nat.reduceLT, Nat.reduceLeDiff, Int.reduceLE, Int.reduceLT, Int.reduceToNat, Int.reduceEq]) rfl rfl ?_
  simp only [go_sem, ↓reduceIte, Nat.reduceEqDiff, Nat.reduceMul, Nat.reduceAdd, Nat.reduceDiv, Nat.reduceSub, Nat.reduceLT, Nat.reduceLeDiff, Int.reduceLE, Int.reduceLT, Int.reduceToNat, Int.reduceEq]
  repeat (refine ⟨by (first | omega | (intro h1 h2; exact ⟨h1, h2⟩) | (intro h1; omega) | (intro h1; exact h1) | trivial), ?_⟩)
  have h9 := uintL_9 (n := s.size) (by omega)
  rw [uintP_nat, bys_take, strCells_bys, bys_app]
  simp only [go_sem]
  rw [size_len]
  refine ⟨by omega, hQ _ _ (own_at rfl (by rw [bys_len]; unfold textL; rw [List.length_append, size_len]) rfl)⟩
theorem cw93 (s : ByteArray) (hs : s.size < 1000000000000) : CW Try.prog 93 [.cv (.str s)] ⟨[.own 1 (bys (textL s))], []⟩ :=
  top93 rfl rfl [] trivial (w93 s hs _ fun σ H h => retO rfl h)
def cutL (b : List UInt8) (a n : Int) : List UInt8 := (b.drop a.toNat).take n.toNat
def pieceC (b : List UInt8) (a n : Int) : CV := if (b.length : Int) - a < n then .nilsl else .sl 1 (bys (cutL b a n))
def pieceB (b : List UInt8) (a n : Int) : Bool := !decide ((b.length : Int) - a < n)
theorem bys_cut (b : List UInt8) (m k : Nat) : List.take k (List.drop m (bys b)) = bys ((b.drop m).take k) := by simp [bys, List.map_drop, List.map_take]
theorem w133 (b : List UInt8) (a n : Int) (hb : b.length < 1000000000000000) (ha : 0 ≤ a ∧ a ≤ b.length) (hn : 0 ≤ n ∧ n < 9223372036854775808) (Q : Ex → Slots → LH → Prop) (hQ : ∀ σ H, Slots.get σ 6 = .c (pieceC b a n) → Slots.get σ 7 = .c (.bool (pieceB b a n)) → Q .ret σ H) : rnC Try.prog b133 Q [(0, .c (.sl 1 (bys b))), (1, .c (.int .i64 a)), (2, .c (.int .i64 n))] [] := by
  unfold b133
  simp only [go_sem, ↓reduceIte, Nat.reduceEqDiff, Nat.reduceMul, Nat.reduceAdd, Nat.reduceDiv, Nat.reduceSub, Nat.reduceLT, Nat.reduceLeDiff, Int.reduceLE, Int.reduceLT, Int.reduceToNat, Int.reduceEq]
  have e1 : IntKind.i64.wrap ((b.length : Int) - a) = (b.length : Int) - a := by rw [wrap_i64]; omega
  rw [e1]
  refine ⟨fun h => ?_, fun h => ?_⟩
  · have h2 : pieceC b a n = .nilsl := by unfold pieceC; rw [if_pos h]
    have h3 : pieceB b a n = false := by unfold pieceB; simp [h]
    rw [h2, h3] at hQ
    exact hQ _ _ rfl rfl
  · have h2 : pieceC b a n = .sl 1 (bys (cutL b a n)) := by unfold pieceC; rw [if_neg (by omega)]
    have h3 : pieceB b a n = true := by unfold pieceB; simp; omega
    rw [h2, h3] at hQ
    have e2 : IntKind.i64.wrap (a + n) = a + n := by rw [wrap_i64]; omega
    rw [e2]
    refine ⟨by omega, hQ _ _ ?_ rfl⟩
    have e3 : (a + n).toNat - a.toNat = n.toNat := by omega
    simp only [go_sem, ↓reduceIte, Nat.reduceEqDiff, Nat.reduceMul, Nat.reduceAdd, Nat.reduceDiv, Nat.reduceSub, Nat.reduceLT, Nat.reduceLeDiff, Int.reduceLE, Int.reduceLT, Int.reduceToNat, Int.reduceEq]
    rw [e3, bys_cut]; rfl
theorem cw133 (b : List UInt8) (a n : Int) (hb : b.length < 1000000000000000) (ha : 0 ≤ a ∧ a ≤ b.length) (hn : 0 ≤ n ∧ n < 9223372036854775808) : CW Try.prog 133 [.cv (.sl 1 (bys b)), .cv (.int .i64 a), .cv (.int .i64 n)] ⟨[.cv (pieceC b a n), .cv (.bool (pieceB b a n))], []⟩ :=
  top133 rfl rfl [] trivial (w133 b a n hb ha hn _ fun σ H h h' => ret2 rfl h h')
theorem rdGo_spec (a : Int) : ∀ (k : Nat) (l : List UInt8) (n : Nat), k ≤ 9 → n < 128 ^ (9 - k) →
    ((rdGo a k l n).2.2 = 0 → 0 ≤ (rdGo a k l n).1 ∧ (rdGo a k l n).1 < 9223372036854775808 ∧ a + ((9 - k : Nat) : Int) + 1 ≤ (rdGo a k l n).2.1 ∧ (rdGo a k l n).2.1 ≤ a + ((9 - k : Nat) : Int) + l.length) ∧
    ((rdGo a k l n).2.2 ≠ 0 → (rdGo a k l n).1 = 0 ∧ (rdGo a k l n).2.1 = 0)
  | 0, l, n, hk, hn => ⟨fun h => by simp [rdGo] at h, fun _ => ⟨rfl, rfl⟩⟩
  | k + 1, [], n, hk, hn => ⟨fun h => by simp [rdGo] at h, fun _ => ⟨rfl, rfl⟩⟩
  | k + 1, c :: t, n, hk, hn => by
    have hn : n < 128 ^ (8 - k) := by rw [show 9 - (k + 1) = 8 - k by omega] at hn; exact hn
    rw [rdGo]
    by_cases h1 : c.toNat < 128
    · rw [if_pos h1]
      by_cases h2 : c.toNat = 0 ∧ k < 8
      · rw [if_pos h2]; exact ⟨fun h => by simp at h, fun _ => ⟨rfl, rfl⟩⟩
      · rw [if_neg h2]
        have h3 := next_lt hn h1
        have h4 := pow_le9 (show 8 - k + 1 ≤ 9 by omega)
        refine ⟨fun _ => ⟨by simp only; omega, by simp only; omega, by simp only; omega, ?_⟩, fun h => absurd rfl h⟩
        simp only [List.length_cons]; omega
    · rw [if_neg h1]
      have h3 := next_lt hn (show c.toNat - 128 < 128 by have := c.toNat_lt; omega)
      have ih := rdGo_spec a k t (n + (c.toNat - 128) * 128 ^ (8 - k)) (by omega) (by rw [show 9 - k = 8 - k + 1 by omega]; exact h3)
      refine ⟨fun h => ?_, ih.2⟩
      have := ih.1 h
      simp only [List.length_cons]
      omega
theorem rdU_spec (b : List UInt8) (a : Int) : ((rdU b a).2.2 = 0 → (0 ≤ a ∧ a ≤ b.length) ∧ 0 ≤ (rdU b a).1 ∧ (rdU b a).1 < 9223372036854775808 ∧ a + 1 ≤ (rdU b a).2.1 ∧ (rdU b a).2.1 ≤ b.length) ∧ ((rdU b a).2.2 ≠ 0 → (rdU b a).1 = 0 ∧ (rdU b a).2.1 = 0) := by
  unfold rdU
  by_cases h : a < 0 ∨ (b.length : Int) < a
  · rw [if_pos h]; exact ⟨fun h => by simp at h, fun _ => ⟨rfl, rfl⟩⟩
  · rw [if_neg h]
    have := rdGo_spec a 9 (b.drop a.toNat) 0 (by decide) (by simp)
    refine ⟨fun h2 => ?_, this.2⟩
    have := this.1 h2
    rw [List.length_drop] at this
    omega
def strOf (l : List UInt8) : ByteArray := ⟨l.toArray⟩
theorem mkStr_bys (l : List UInt8) : mkStr (bys l) = strOf l := by
  unfold mkStr strOf bys
  congr 2
  rw [List.map_map]
  conv => rhs; rw [← List.map_id l]
  apply List.map_congr_left
  intro c _
  simp [u8]
theorem bys_isU8 (l : List UInt8) : ∀ x ∈ bys l, isU8 x := by
  intro x hx
  obtain ⟨c, _, rfl⟩ := List.mem_map.1 hx
  trivial
def rdT (b : List UInt8) (a most : Int) : ByteArray × Int × Int :=
  if (a < 0 ∨ (b.length : Int) < a) ∨ most < 0 then (⟨#[]⟩, 0, 1) else
  if (rdU b a).2.2 ≠ 0 then (⟨#[]⟩, 0, (rdU b a).2.2) else
  if most < (rdU b a).1 then (⟨#[]⟩, 0, 3) else
  if (b.length : Int) - (rdU b a).2.1 < (rdU b a).1 then (⟨#[]⟩, 0, 10) else
  (strOf (cutL b (rdU b a).2.1 (rdU b a).1), (rdU b a).2.1 + (rdU b a).1, 0)
theorem w124 (b : List UInt8) (a most : Int) (hb : b.length < 1000000000000000) (ha : -9223372036854775808 ≤ a ∧ a < 9223372036854775808) (Q : Ex → Slots → LH → Prop) (hQ : ∀ σ H, Slots.get σ 6 = .c (.str ((rdT b a most).1)) → Slots.get σ 7 = .c (.int .i64 ((rdT b a most).2.1)) → Slots.get σ 8 = .c (.int .i64 ((rdT b a most).2.2)) → Q .ret σ H) : rnC Try.prog b124 Q [(0, .c (.sl 1 (bys b))), (1, .c (.int .i64 a)), (2, .c (.int .i64 most))] [] := by
  unfold b124
  simp only [go_sem, ↓reduceIte, Nat.reduceEqDiff, Nat.reduceMul, Nat.reduceAdd, Nat.reduceDiv, Nat.reduceSub, Nat.reduceLT, Nat.reduceLeDiff, Int.reduceLE, Int.reduceLT, Int.reduceToNat, Int.reduceEq]
  unfold rdT at hQ
  refine ⟨fun h => ?_, fun h => ?_⟩
  · rw [if_pos h] at hQ; exact hQ _ _ rfl rfl rfl
  rw [if_neg (by omega)] at hQ
  have hs := rdU_spec b a
  refine callK_3 _ _ _ (fun _ => cw64 b a hb ha) (by simp only [go_sem, ↓reduceIte, Nat.reduceEqDiff, Nat.reduceMul, Nat.reduceAdd, Nat.reduceDiv, Nat.reduceSub, Nat.reduceLT, Nat.reduceLeDiff, Int.reduceLE, Int.reduceLT, Int.reduceToNat, Int.reduceEq]) rfl rfl ?_
  simp only [go_sem, ↓reduceIte, Nat.reduceEqDiff, Nat.reduceMul, Nat.reduceAdd, Nat.reduceDiv, Nat.reduceSub, Nat.reduceLT, Nat.reduceLeDiff, Int.reduceLE, Int.reduceLT, Int.reduceToNat, Int.reduceEq]
  repeat (refine ⟨by (first | omega | (intro h1 h2; exact ⟨h1, h2⟩) | (intro h1; omega) | (intro h1; exact h1) | trivial), ?_⟩)
  refine ⟨fun h1 => ?_, fun h1 => ?_⟩
  · rw [if_pos h1] at hQ; exact hQ _ _ rfl rfl rfl
  rw [if_neg (by omega)] at hQ
  obtain ⟨_, s1, s2, s3, s4⟩ := hs.1 h1
  refine ⟨fun h2 => ?_, fun h2 => ?_⟩
  · rw [if_pos h2] at hQ; exact hQ _ _ rfl rfl rfl
  rw [if_neg (by omega)] at hQ
  have c133 := cw133 b (rdU b a).2.1 (rdU b a).1 hb (by omega) ⟨s1, s2⟩
  by_cases h3 : (b.length : Int) - (rdU b a).2.1 < (rdU b a).1
  · rw [if_pos h3] at hQ
    rw [pieceC, pieceB, if_pos h3, decide_eq_true h3] at c133
    refine callK_2 _ _ (fun _ => c133) (by simp only [go_sem, ↓reduceIte, Nat.reduceEqDiff, Nat.reduceMul, Nat.reduceAdd, Nat.reduceDiv, Nat.reduceSub, Nat.reduceLT, Nat.reduceLeDiff, Int.reduceLE, Int.reduceLT, Int.reduceToNat, Int.reduceEq]) rfl rfl ?_
    simp only [go_sem, ↓reduceIte, Nat.reduceEqDiff, Nat.reduceMul, Nat.reduceAdd, Nat.reduceDiv, Nat.reduceSub, Nat.reduceLT, Nat.reduceLeDiff, Int.reduceLE, Int.reduceLT, Int.reduceToNat, Int.reduceEq]
    repeat (refine ⟨by (first | omega | (intro h1 h2; exact ⟨h1, h2⟩) | (intro h1; omega) | (intro h1; exact h1) | trivial), ?_⟩)
    exact hQ _ _ rfl rfl rfl
  · rw [if_neg h3] at hQ
    rw [pieceC, pieceB, if_neg h3, decide_eq_false h3] at c133
    refine callK_2 _ _ (fun _ => c133) (by simp only [go_sem, ↓reduceIte, Nat.reduceEqDiff, Nat.reduceMul, Nat.reduceAdd, Nat.reduceDiv, Nat.reduceSub, Nat.reduceLT, Nat.reduceLeDiff, Int.reduceLE, Int.reduceLT, Int.reduceToNat, Int.reduceEq]) rfl rfl ?_
    simp only [go_sem, ↓reduceIte, Nat.reduceEqDiff, Nat.reduceMul, Nat.reduceAdd, Nat.reduceDiv, Nat.reduceSub, Nat.reduceLT, Nat.reduceLeDiff, Int.reduceLE, Int.reduceLT, Int.reduceToNat, Int.reduceEq]
    repeat (refine ⟨by (first | omega | (intro h1 h2; exact ⟨h1, h2⟩) | (intro h1; omega) | (intro h1; exact h1) | trivial), ?_⟩)
    refine ⟨bys_isU8 _, hQ _ _ ?_ ?_ rfl⟩
    · simp only [go_sem, ↓reduceIte, Nat.reduceEqDiff, Nat.reduceMul, Nat.reduceAdd, Nat.reduceDiv, Nat.reduceSub, Nat.reduceLT, Nat.reduceLeDiff, Int.reduceLE, Int.reduceLT, Int.reduceToNat, Int.reduceEq]
      rw [mkStr_bys]
    · simp only [go_sem, ↓reduceIte, Nat.reduceEqDiff, Nat.reduceMul, Nat.reduceAdd, Nat.reduceDiv, Nat.reduceSub, Nat.reduceLT, Nat.reduceLeDiff, Int.reduceLE, Int.reduceLT, Int.reduceToNat, Int.reduceEq]
      congr 2
      rw [wrap_i64]; omega
theorem cw124 (b : List UInt8) (a most : Int) (hb : b.length < 1000000000000000) (ha : -9223372036854775808 ≤ a ∧ a < 9223372036854775808) : CW Try.prog 124 [.cv (.sl 1 (bys b)), .cv (.int .i64 a), .cv (.int .i64 most)] ⟨[.cv (.str ((rdT b a most).1)), .cv (.int .i64 ((rdT b a most).2.1)), .cv (.int .i64 ((rdT b a most).2.2))], []⟩ :=
  top124 rfl rfl [] trivial (w124 b a most hb ha _ fun σ H h h' h'' => ret3 rfl h h' h'')
theorem w135 (b : List UInt8) (a most : Int) (hb : b.length < 1000000000000000) (ha : -9223372036854775808 ≤ a ∧ a < 9223372036854775808) (Q : Ex → Slots → LH → Prop) (hQ : ∀ σ H, Slots.get σ 6 = .c (.str ((rdT b a most).1)) → Slots.get σ 7 = .c (.int .i64 ((rdT b a most).2.1)) → Slots.get σ 8 = .c (.int .i64 ((rdT b a most).2.2)) → Q .ret σ H) : rnC Try.prog b135 Q [(0, .c (.sl 1 (bys b))), (1, .c (.int .i64 a)), (2, .c (.int .i64 most))] [] := by
  unfold b135
  simp only [go_sem, ↓reduceIte, Nat.reduceEqDiff, Nat.reduceMul, Nat.reduceAdd, Nat.reduceDiv, Nat.reduceSub, Nat.reduceLT, Nat.reduceLeDiff, Int.reduceLE, Int.reduceLT, Int.reduceToNat, Int.reduceEq]
  unfold rdT at hQ
  refine ⟨fun h => ?_, fun h => ?_⟩
  · rw [if_pos h] at hQ; exact hQ _ _ rfl rfl rfl
  rw [if_neg (by omega)] at hQ
  have hs := rdU_spec b a
  refine callK_3 _ _ _ (fun _ => cw105 b a hb ha) (by simp only [go_sem, ↓reduceIte, Nat.reduceEqDiff, Nat.reduceMul, Nat.reduceAdd, Nat.reduceDiv, Nat.reduceSub, Nat.reduceLT, Nat.reduceLeDiff, Int.reduceLE, Int.reduceLT, Int.reduceToNat, Int.reduceEq]) rfl rfl ?_
  simp only [go_sem, ↓reduceIte, Nat.reduceEqDiff, Nat.reduceMul, Nat.reduceAdd, Nat.reduceDiv, Nat.reduceSub, Nat.reduceLT, Nat.reduceLeDiff, Int.reduceLE, Int.reduceLT, Int.reduceToNat, Int.reduceEq]
  repeat (refine ⟨by (first | omega | (intro h1 h2; exact ⟨h1, h2⟩) | (intro h1; omega) | (intro h1; exact h1) | trivial), ?_⟩)
  refine ⟨fun h1 => ?_, fun h1 => ?_⟩
  · rw [if_pos h1] at hQ; exact hQ _ _ rfl rfl rfl
  rw [if_neg (by omega)] at hQ
  obtain ⟨_, s1, s2, s3, s4⟩ := hs.1 h1
  refine ⟨fun h2 => ?_, fun h2 => ?_⟩
  · rw [if_pos h2] at hQ; exact hQ _ _ rfl rfl rfl
  rw [if_neg (by omega)] at hQ
  have e1 : IntKind.i64.wrap ((b.length : Int) - (rdU b a).2.1) = (b.length : Int) - (rdU b a).2.1 := by rw [wrap_i64]; omega
  rw [e1]
  refine ⟨fun h3 => ?_, fun h3 => ?_⟩
  · rw [if_pos h3] at hQ; exact hQ _ _ rfl rfl rfl
  rw [if_neg (by omega)] at hQ
  have e2 : IntKind.i64.wrap ((rdU b a).2.1 + (rdU b a).1) = (rdU b a).2.1 + (rdU b a).1 := by rw [wrap_i64]; omega
  have e3 : ((rdU b a).2.1 + (rdU b a).1).toNat - (rdU b a).2.1.toNat = (rdU b a).1.toNat := by omega
  rw [e2, e3, bys_cut]
  refine ⟨by omega, bys_isU8 _, hQ _ _ ?_ rfl rfl⟩
  simp only [go_sem, ↓reduceIte, Nat.reduceEqDiff, Nat.reduceMul, Nat.reduceAdd, Nat.reduceDiv, Nat.reduceSub, Nat.reduceLT, Nat.reduceLeDiff, Int.reduceLE, Int.reduceLT, Int.reduceToNat, Int.reduceEq]
  rw [mkStr_bys]; rfl
theorem cw135 (b : List UInt8) (a most : Int) (hb : b.length < 1000000000000000) (ha : -9223372036854775808 ≤ a ∧ a < 9223372036854775808) : CW Try.prog 135 [.cv (.sl 1 (bys b)), .cv (.int .i64 a), .cv (.int .i64 most)] ⟨[.cv (.str ((rdT b a most).1)), .cv (.int .i64 ((rdT b a most).2.1)), .cv (.int .i64 ((rdT b a most).2.2))], []⟩ :=
  top135 rfl rfl [] trivial (w135 b a most hb ha _ fun σ H h h' h'' => ret3 rfl h h' h'')
end Go.Proofs.Ytcpdnpaedkcebaa.V
