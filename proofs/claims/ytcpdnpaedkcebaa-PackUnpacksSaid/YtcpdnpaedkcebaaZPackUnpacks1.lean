/- Towards the law PackUnpacks (what pack.Unpack tells), part 1: the texts Va Vb Vc Vd Ve Vf Vg Vh Vi, what of them is used. -/
import Derived.Orders
import Derived.Below
import Derived.Tactics
import Derived.Laws.IdiomCopy
import Derived.Laws.MakeOwn
import Derived.Laws.Append
import Derived.Laws.AppendOwn
import Derived.Laws.NewBlocks
import Derived.RowKit
import Derived.Laws.Entries
import Derived.Great.FillDense
import Derived.Laws.BytesString
import Derived.Laws.Slices
import Derived.Great.BuildSlice
import Derived.MapKept
import Derived.Test.YtcpdnpaedkcebaaProg
import Derived.WalkKit
import Derived.Laws.BitsAllLaws
import Derived.Defers
import Derived.Recover
import Derived.Tactics2
import Derived.WideKeyRuns
import Derived.Lib.OthersKept
import Derived.Deep.Slices
import Derived.SizedLaws
namespace Go.Proofs.Ytcpdnpaedkcebaa.V
open Go Go.RowKit
set_option linter.unusedVariables false
set_option linter.unusedSimpArgs false
inductive CV where
  | bool (b : Bool)
  | int (k : IntKind) (n : Int)
  | flt (n : Nat)
  | str (s : ByteArray)
  | nilsl
  | sl (sz : Nat) (xs : List CV)
  | agg (cs : List CV)
  | fn (f : FuncId)
  | nilfn
  | undef
  | raw (v : Value)
  | rsl (p : Option Addr) (n c : Nat)
instance : Inhabited CV := ⟨.undef⟩
def CV.cells : CV → List CV
  | .agg cs => cs
  | v => [v]
def CV.one : CV → Bool
  | .agg _ => false
  | .undef => false
  | .raw _ => false
  | _ => true
def CV.wf (sz : Nat) (x : CV) : Prop := x.cells.length = sz ∧ ∀ c ∈ x.cells, c.one = true
def CV.scalar : CV → Bool
  | .bool _ | .int _ _ | .flt _ | .str _ | .fn _ | .nilfn | .nilsl | .raw _ | .rsl _ _ _ => true
  | _ => false
inductive VR (w : World) (S : Nat → Nat → Prop) : CV → Value → Prop
  | bool (b : Bool) : VR w S (.bool b) (.bool b)
  | int (k : IntKind) (n : Int) : VR w S (.int k n) (.int k n)
  | flt (n : Nat) : VR w S (.flt n) (.float .f64 n)
  | str (s : ByteArray) : VR w S (.str s) (.string s)
  | nilsl : VR w S .nilsl (.slice none 0 0)
  | slnil (sz : Nat) (p : Option Addr) (c : Nat) : VR w S (.sl sz []) (.slice p 0 c)
  | sl (sz : Nat) (xs : List CV) (b o cap : Nat) (u : Nat → Nat → Value) (hcap : xs.length ≤ cap) (hl : ∀ x ∈ xs, x.wf sz)
      (hc : ∀ i j, i < xs.length → j < sz → S b (o + (i * sz + j)) ∧ w.cell? ⟨b, o + (i * sz + j), none⟩ = some (u i j))
      (hu : ∀ i j, i < xs.length → j < sz → VR w S ((xs.getD i .undef).cells.getD j .undef) (u i j)) :
      VR w S (.sl sz xs) (.slice (some ⟨b, o, none⟩) xs.length cap)
  | agg (cs : List CV) (us : Array Value) (hl : us.size = cs.length) (hu : ∀ i, i < cs.length → VR w S (cs.getD i .undef) (us.getD i Go.undef)) :
      VR w S (.agg cs) (.agg us)
  | fn (f : FuncId) : VR w S (.fn f) (.func (.func f) #[] #[])
  | nilfn : VR w S .nilfn .nilFunc
  | undef (v : Value) : VR w S .undef v
  | raw (v : Value) : VR w S (.raw v) v
  | rsl (p : Option Addr) (n c : Nat) : VR w S (.rsl p n c) (.slice p n c)
theorem VR.mono {w w' : World} {S S' : Nat → Nat → Prop} {c : CV} {u : Value} (h : VR w S c u)
    (k : ∀ b o x, S b o → w.cell? ⟨b, o, none⟩ = some x → S' b o ∧ w'.cell? ⟨b, o, none⟩ = some x) : VR w' S' c u := by
  induction h with
  | bool b => exact .bool b
  | int k n => exact .int k n
  | flt n => exact .flt n
  | str s => exact .str s
  | nilsl => exact .nilsl
  | slnil sz p c => exact .slnil sz p c
  | sl sz xs b o cap u hcap hl hc hu ih =>
    exact .sl sz xs b o cap u hcap hl (fun i j hi hj => k _ _ _ (hc i j hi hj).1 (hc i j hi hj).2) ih
  | agg cs us hl hu ih => exact .agg cs us hl ih
  | fn f => exact .fn f
  | nilfn => exact .nilfn
  | undef v => exact .undef v
  | raw v => exact .raw v
  | rsl p n c => exact .rsl p n c
theorem VR.scalar {w w' : World} {S S' : Nat → Nat → Prop} {c : CV} {u : Value} (h : VR w S c u) (hs : c.scalar = true) : VR w' S' c u := by
  cases h <;> first | (simp [CV.scalar] at hs; done) | constructor
theorem VR.oneCell {w : World} {S : Nat → Nat → Prop} {c : CV} {u : Value} (h : VR w S c u) (h1 : c.one = true) : u.cells = #[u] ∧ u.oneCell' = true := by
  cases h <;> simp_all [CV.one, Value.cells, Value.oneCell']
theorem VR.cells {w : World} {S : Nat → Nat → Prop} {c : CV} {u : Value} (h : VR w S c u) (h1 : c.one = true ∨ ∃ cs, c = .agg cs) :
    u.cells.size = c.cells.length ∧ ∀ j, j < c.cells.length → VR w S (c.cells.getD j .undef) (u.cells.getD j Go.undef) := by
  cases h with
  | agg cs us hl hu => exact ⟨hl, hu⟩
  | undef v => simp [CV.one] at h1
  | raw v => simp [CV.one] at h1
  | _ =>
    refine ⟨by simp [Value.cells, CV.cells], fun j hj => ?_⟩
    have : j = 0 := by simp [CV.cells] at hj; omega
    subst this
    simp only [Value.cells, CV.cells, List.getD_cons_zero, Array.getD_eq_getD_getElem?]
    first
      | exact .bool _ | exact .int _ _ | exact .flt _ | exact .str _ | exact .nilsl | exact .slnil _ _ _ | exact .fn _ | exact .nilfn | exact .rsl _ _ _
      | (apply VR.sl <;> assumption)
inductive AV where
  | c (v : CV)
  | ref (id off : Nat)
  | osl (id off len : Nat)
  | eptr (id idx foff : Nat)
  | vptr (cs : List CV)
  | tup (l : List AV)
  | grd (b : Bool) (v : AV)
instance : Inhabited AV := ⟨.c .undef⟩
inductive LObj where
  | obj (cs : List AV)
  | row (esz : Nat) (xs : List CV)
  | vrow (esz : Nat) (xs : List CV)
  | dead
def LObj.own : LObj → Prop
  | .obj _ => True
  | .row _ _ => True
  | _ => False
abbrev LH := List (Nat × LObj)
def LH.get : List (Nat × LObj) → Nat → Option LObj
  | [], _ => none
  | (k, o) :: H, i => if k = i then some o else LH.get H i
def LH.set : List (Nat × LObj) → Nat → LObj → List (Nat × LObj)
  | [], i, o => [(i, o)]
  | (k, p) :: H, i, o => if k = i then (i, o) :: H else (k, p) :: LH.set H i o
def LH.sets (H : List (Nat × LObj)) : List (Nat × LObj) → List (Nat × LObj)
  | [] => H
  | (i, o) :: l => LH.set (LH.sets H l) i o
theorem LH.get_set (H : LH) (i j : Nat) (o : LObj) : LH.get (LH.set H i o) j = if j = i then some o else LH.get H j := by
  induction H with
  | nil => 
    by_cases h : i = j
    · subst h; simp [LH.set, LH.get]
    · simp [LH.set, LH.get, h, Ne.symm h]
  | cons x H ih =>
    obtain ⟨k, p⟩ := x
    by_cases h : k = i
    · subst h
      by_cases h2 : k = j
      · subst h2; simp [LH.set, LH.get]
      · simp [LH.set, LH.get, h2, Ne.symm h2]
    · by_cases h2 : k = j
      · subst h2; simp [LH.set, LH.get, h]
      · simp [LH.set, LH.get, h, h2, ih]
theorem LH.get_sets (H : LH) (i : Nat) : ∀ ws : List (Nat × LObj), LH.get (LH.sets H ws) i = match LH.get ws i with | some o => some o | none => LH.get H i
  | [] => rfl
  | (k, o) :: ws => by
    simp only [LH.sets, LH.get_set, LH.get]
    by_cases e : i = k
    · rw [if_pos e, if_pos e.symm]
    · rw [if_neg e, if_neg (Ne.symm e)]; exact LH.get_sets H i ws
abbrev Slots := List (Nat × AV)
def Slots.get : List (Nat × AV) → Nat → AV
  | [], _ => .c .undef
  | (k, o) :: H, i => if k = i then o else Slots.get H i
def Slots.set (H : List (Nat × AV)) (i : Nat) (o : AV) : List (Nat × AV) := (i, o) :: H
def Slots.put (σ : List (Nat × AV)) : Option Nat → AV → List (Nat × AV)
  | some d, v => Slots.set σ d v
  | none, _ => σ
theorem Slots.get_set (H : Slots) (i j : Nat) (o : AV) : Slots.get (Slots.set H i o) j = if j = i then o else Slots.get H j := by
  by_cases h : i = j
  · subst h; simp [Slots.set, Slots.get]
  · simp [Slots.set, Slots.get, h, Ne.symm h]
structure Loc where
  block : Nat
  off : Nat
  cap : Nat
  isnil : Bool
instance : Inhabited Loc := ⟨⟨0, 0, 0, true⟩⟩
def RefOK (ι : Nat → Loc) (H : LH) (id off : Nat) (u : Value) : Prop :=
  match LH.get H id with
  | some (.obj cs) => off ≤ cs.length ∧ u = .pointer (some ⟨(ι id).block, (ι id).off + off, none⟩)
  | some .dead => True
  | _ => False
def SliceAt (L : Loc) (esz off len : Nat) (u : Value) : Prop :=
  if L.isnil = true then off = 0 ∧ len = 0 ∧ ∃ p, u = .slice p 0 0
  else u = .slice (some ⟨L.block, L.off + off * esz, none⟩) len (L.cap - off) ∨ (len = 0 ∧ ∃ p, u = .slice p 0 0)
def OslOK (ι : Nat → Loc) (H : LH) (id off len : Nat) (u : Value) : Prop :=
  match LH.get H id with
  | some (.row esz xs) => off + len ≤ xs.length ∧ SliceAt (ι id) esz off len u
  | some (.vrow esz xs) => off + len ≤ xs.length ∧ SliceAt (ι id) esz off len u
  | some .dead => True
  | _ => False
def EptrAt (L : Loc) (esz idx foff : Nat) (u : Value) : Prop :=
  L.isnil = false ∧ u = .pointer (some ⟨L.block, L.off + (idx * esz + foff), none⟩)
def EptrOK (ι : Nat → Loc) (H : LH) (id idx foff : Nat) (u : Value) : Prop :=
  match LH.get H id with
  | some (.row esz xs) => idx < xs.length ∧ EptrAt (ι id) esz idx foff u
  | some (.vrow esz xs) => idx < xs.length ∧ EptrAt (ι id) esz idx foff u
  | some .dead => True
  | _ => False
inductive AVR (ι : Nat → Loc) (H : LH) (S : Nat → Nat → Prop) (w : World) : AV → Value → Prop
  | c (v : CV) (u : Value) (h : VR w S v u) : AVR ι H S w (.c v) u
  | ref (id off : Nat) (u : Value) (h : RefOK ι H id off u) : AVR ι H S w (.ref id off) u
  | osl (id off len : Nat) (u : Value) (h : OslOK ι H id off len u) : AVR ι H S w (.osl id off len) u
  | eptr (id idx foff : Nat) (u : Value) (h : EptrOK ι H id idx foff u) : AVR ι H S w (.eptr id idx foff) u
  | vptr (cs : List CV) (b o : Nat) (h : ∀ j, j < cs.length → ∃ x, S b (o + j) ∧ w.cell? ⟨b, o + j, none⟩ = some x ∧ VR w S (cs.getD j .undef) x) :
      AVR ι H S w (.vptr cs) (.pointer (some ⟨b, o, none⟩))
  | tup (l : List AV) (us : Array Value) (hl : us.size = l.length) (hu : ∀ i, i < l.length → AVR ι H S w (l.getD i (.c .undef)) (us.getD i Go.undef)) :
      AVR ι H S w (.tup l) (.tuple us)
  | grd (b : Bool) (v : AV) (u : Value) (h : b = true → AVR ι H S w v u) (h0 : b = false → u = Go.undef) : AVR ι H S w (.grd b v) u
def Kept (ι ι' : Nat → Loc) (id : Nat) (o o' : LObj) : Prop :=
  match o, o' with
  | _, .dead => True
  | .obj cs, .obj cs' => ι' id = ι id ∧ cs'.length = cs.length
  | .row e xs, .row e' xs' => ι' id = ι id ∧ e' = e ∧ xs'.length = xs.length
  | .row e xs, .vrow e' xs' => ι' id = ι id ∧ e' = e ∧ xs'.length = xs.length
  | .vrow e xs, .vrow e' xs' => ι' id = ι id ∧ e' = e ∧ xs'.length = xs.length
  | _, _ => False
theorem Kept.refl (ι : Nat → Loc) (id : Nat) (o : LObj) : Kept ι ι id o o := by cases o <;> simp [Kept]
theorem AVR.mono {ι ι' : Nat → Loc} {H H' : LH} {S S' : Nat → Nat → Prop} {w w' : World} {a : AV} {u : Value} (h : AVR ι H S w a u)
    (k : ∀ b o x, S b o → w.cell? ⟨b, o, none⟩ = some x → S' b o ∧ w'.cell? ⟨b, o, none⟩ = some x)
    (hk : ∀ id o, LH.get H id = some o → ∃ o', LH.get H' id = some o' ∧ Kept ι ι' id o o') : AVR ι' H' S' w' a u := by
  induction h with
  | c v u h => exact .c v u (h.mono k)
  | ref id off u h =>
    refine .ref id off u ?_
    unfold RefOK at h ⊢
    split at h
    · rename_i cs e
      obtain ⟨o', e', kp⟩ := hk _ _ e
      rw [e']
      cases o' <;> simp_all [Kept]
    · rename_i e
      obtain ⟨o', e', kp⟩ := hk _ _ e
      rw [e']
      cases o' <;> simp_all [Kept]
    · exact h.elim
  | osl id off len u h =>
    refine .osl id off len u ?_
    unfold OslOK at h ⊢
    split at h
    · rename_i cs e
      obtain ⟨o', e', kp⟩ := hk _ _ e
      rw [e']
      cases o' <;> simp_all [Kept]
    · rename_i cs e
      obtain ⟨o', e', kp⟩ := hk _ _ e
      rw [e']
      cases o' <;> simp_all [Kept]
    · rename_i e
      obtain ⟨o', e', kp⟩ := hk _ _ e
      rw [e']
      cases o' <;> simp_all [Kept]
    · exact h.elim
  | eptr id idx foff u h =>
    refine .eptr id idx foff u ?_
    unfold EptrOK at h ⊢
    split at h
    · rename_i cs e
      obtain ⟨o', e', kp⟩ := hk _ _ e
      rw [e']
      cases o' <;> simp_all [Kept]
    · rename_i cs e
      obtain ⟨o', e', kp⟩ := hk _ _ e
      rw [e']
      cases o' <;> simp_all [Kept]
    · rename_i e
      obtain ⟨o', e', kp⟩ := hk _ _ e
      rw [e']
      cases o' <;> simp_all [Kept]
    · exact h.elim
  | vptr cs b o h =>
    exact .vptr cs b o fun j hj => let ⟨x, hs, hx, hv⟩ := h j hj; ⟨x, (k _ _ _ hs hx).1, (k _ _ _ hs hx).2, hv.mono k⟩
  | tup l us hl hu ih => exact .tup l us hl ih
  | grd b v u h h0 ih => exact .grd b v u ih h0
def Owned (ι : Nat → Loc) (H : LH) (id : Nat) : Prop :=
  match LH.get H id with
  | some (.obj _) => True
  | some (.row _ _) => (ι id).isnil = false
  | _ => False
def RowR (L : Loc) (S : Nat → Nat → Prop) (w : World) (esz : Nat) (xs : List CV) : Prop :=
  if L.isnil = true then xs = []
  else xs.length ≤ L.cap ∧ (∀ x ∈ xs, x.wf esz) ∧
    (∀ o, o < L.cap * esz → (∃ u, w.cell? ⟨L.block, L.off + o, none⟩ = some u) ∧ w.frozen? ⟨L.block, L.off + o, none⟩ = false) ∧
    ∀ i j, i < xs.length → j < esz → ∃ u, w.cell? ⟨L.block, L.off + (i * esz + j), none⟩ = some u ∧ VR w S ((xs.getD i .undef).cells.getD j .undef) u
def VRowR (L : Loc) (S : Nat → Nat → Prop) (w : World) (esz : Nat) (xs : List CV) : Prop :=
  if L.isnil = true then xs = [] else VR w S (.sl esz xs) (.slice (some ⟨L.block, L.off, none⟩) xs.length L.cap)
def ObjR (ι : Nat → Loc) (H : LH) (L : Loc) (S : Nat → Nat → Prop) (w : World) (cs : List AV) : Prop :=
  ∀ k, k < cs.length → ∃ u, w.cell? ⟨L.block, L.off + k, none⟩ = some u ∧ w.frozen? ⟨L.block, L.off + k, none⟩ = false ∧ AVR ι H S w (cs.getD k (.c .undef)) u
structure HR (ι : Nat → Loc) (S : Nat → Nat → Prop) (H : LH) (w : World) : Prop where
  obj : ∀ id cs, LH.get H id = some (.obj cs) → ObjR ι H (ι id) S w cs
  row : ∀ id esz xs, LH.get H id = some (.row esz xs) → RowR (ι id) S w esz xs
  vrow : ∀ id esz xs, LH.get H id = some (.vrow esz xs) → VRowR (ι id) S w esz xs
  inj : ∀ i j, Owned ι H i → Owned ι H j → (ι i).block = (ι j).block → i = j
  disj : ∀ i, Owned ι H i → ∀ {o}, ¬ S (ι i).block o
  lt : ∀ i, Owned ι H i → (ι i).block < w.heap.size
  slt : ∀ b {o}, S b o → b < w.heap.size
structure Fr (O : Nat → Prop) (w w' : World) : Prop where
  os : w'.os = w.os
  tape : w'.tape = w.tape
  output : w'.output = w.output
  size : w.heap.size ≤ w'.heap.size
  block : ∀ k, k < w.heap.size → ¬ O k → w'.heap[k]? = w.heap[k]?
theorem Fr.refl (O : Nat → Prop) (w : World) : Fr O w w := ⟨rfl, rfl, rfl, Nat.le_refl _, fun _ _ _ => rfl⟩
theorem Fr.below {O : Nat → Prop} {w w' : World} (h : Fr O w w') (hO : ∀ b, ¬ O b) : Below w.heap.size w w' :=
  ⟨h.os, h.tape, h.output, h.size, fun k hk => h.block k hk (hO k)⟩
structure Ctx where
  w0 : World
  O : Nat → Prop
  S0 : Nat → Nat → Prop
  ι0 : Nat → Loc
  n : Nat
  ds : List Deferred
def argBase : Nat := 3000000
structure R (C : Ctx) (ι : Nat → Loc) (S : Nat → Nat → Prop) (σ : Slots) (H : LH) (a : Act) (w : World) : Prop where
  fr : Fr C.O C.w0 w
  hr : HR ι S H w
  sl : ∀ t, AVR ι H S w (Slots.get σ t) (a.tmps.getD t Go.undef)
  own : ∀ id, Owned ι H id → C.O (ι id).block ∨ C.w0.heap.size ≤ (ι id).block
  sup : ∀ b {o}, S b o → C.S0 b o ∨ (C.O b ∨ C.w0.heap.size ≤ b) ∧ w.frozen? ⟨b, o, none⟩ = false
  sub : ∀ b {o}, C.S0 b o → S b o
  loc : ∀ id ob, LH.get H id = some ob → ob.own → argBase ≤ id → ι id = C.ι0 id
  size : a.tmps.size = C.n
  defs : a.defers = C.ds
theorem AVR.undef {ι : Nat → Loc} {H : LH} {S : Nat → Nat → Prop} {w : World} (u : Value) : AVR ι H S w (.c .undef) u := .c _ _ (.undef u)
theorem R.put {C : Ctx} {ι : Nat → Loc} {S : Nat → Nat → Prop} {σ : Slots} {H : LH} {a : Act} {w : World} (h : R C ι S σ H a w) {d : Option Nat} {av : AV} {v : Value}
    (hv : AVR ι H S w av v) (hd : ∀ k, d = some k → k < C.n) : R C ι S (Slots.put σ d av) H (a.put d v) w := by
  cases d with
  | none => exact h
  | some d =>
    refine ⟨h.fr, h.hr, fun t => ?_, h.own, h.sup, h.sub, h.loc, by simp [Act.put, h.size], h.defs⟩
    simp only [Slots.put, Slots.get_set, Act.put]
    by_cases e : t = d
    · subst e
      have hlt : t < a.tmps.size := by rw [h.size]; exact hd _ rfl
      simp [hlt]; exact hv
    · rw [if_neg e]
      have := h.sl t
      simpa [Array.getD_eq_getD_getElem?, Array.getElem?_setIfInBounds_ne (Ne.symm e)] using this
inductive Opd where
  | t (n : Nat)
  | c (v : CV)
def val (σ : List (Nat × AV)) : Opd → AV
  | .t n => Slots.get σ n
  | .c v => .c v
inductive OC where
  | cv (v : CV)
  | own (esz : Nat) (xs : List CV)
inductive Arg where
  | cv (v : CV)
  | own (esz : Nat) (xs : List CV)
  | mutr (esz : Nat) (xs : List CV)
  | obj (cs : List OC)
def Arg.lent : Arg → Bool
  | .mutr _ _ => true
  | .obj _ => true
  | _ => false
structure Out where
  res : List OC
  back : List (List OC)
def OC.av (id : Nat) : OC → AV
  | .cv v => .c v
  | .own _ xs => .osl id 0 xs.length
def OC.ob (id : Nat) : OC → List (Nat × LObj)
  | .cv _ => []
  | .own e xs => [(id, .row e xs)]
def cellsAV (base : Nat) : List OC → Nat → List AV
  | [], _ => []
  | c :: cs, k => c.av (base + 1 + k) :: cellsAV base cs (k + 1)
def cellsOb (base : Nat) : List OC → Nat → List (Nat × LObj)
  | [], _ => []
  | c :: cs, k => c.ob (base + 1 + k) ++ cellsOb base cs (k + 1)
def Arg.av (id : Nat) : Arg → AV
  | .cv v => .c v
  | .own _ xs => .osl id 0 xs.length
  | .mutr _ xs => .osl id 0 xs.length
  | .obj _ => .ref id 0
def Arg.ob (id : Nat) : Arg → List (Nat × LObj)
  | .cv _ => []
  | .own e xs => [(id, .row e xs)]
  | .mutr e xs => [(id, .row e xs)]
  | .obj cs => (id, .obj (cellsAV id cs 0)) :: cellsOb id cs 0
def argsAV (base : Nat) : List Arg → Nat → List AV
  | [], _ => []
  | a :: as0, j => a.av (base + 64 * j) :: argsAV base as0 (j + 1)
def argsOb (base : Nat) : List Arg → Nat → List (Nat × LObj)
  | [], _ => []
  | a :: as0, j => a.ob (base + 64 * j) ++ argsOb base as0 (j + 1)
def slotsOf : List AV → Nat → List (Nat × AV)
  | [], _ => []
  | a :: as0, j => (j, a) :: slotsOf as0 (j + 1)
def retBase : Nat := 5000000
def OC.arg : OC → Arg
  | .cv v => .cv v
  | .own e xs => .own e xs
def backArgs : List Arg → List (List OC) → List Arg
  | .obj _ :: as0, b :: bs => .obj b :: backArgs as0 bs
  | .mutr _ _ :: as0, [.own e xs] :: bs => .mutr e xs :: backArgs as0 bs
  | .cv _ :: as0, bs => .cv .undef :: backArgs as0 bs
  | .own _ _ :: as0, bs => .cv .undef :: backArgs as0 bs
  | _, _ => []
def backOK : List Arg → List (List OC) → Prop
  | .obj cs :: as0, b :: bs => b.length = cs.length ∧ backOK as0 bs
  | .mutr e xs :: as0, [.own e' ys] :: bs => e' = e ∧ ys.length = xs.length ∧ backOK as0 bs
  | .cv _ :: as0, bs => backOK as0 bs
  | .own _ _ :: as0, bs => backOK as0 bs
  | [], [] => True
  | _, _ => False
def retAV (res : List OC) : AV :=
  match res with
  | [r] => r.av retBase
  | rs => .tup (argsAV retBase (rs.map OC.arg) 0)
def retOb (args : List Arg) (out : Out) : List (Nat × LObj) :=
  argsOb retBase (out.res.map OC.arg) 0 ++ argsOb argBase (backArgs args out.back) 0
def Handed (ι : Nat → Loc) (H : List (Nat × LObj)) (b : Nat) : Prop := ∃ id, Owned ι H id ∧ (ι id).block = b
def isFn (P : Program) (f : FuncId) : Bool :=
  match P.funcs[f]? with
  | some fn => fn.name != "runtime.NumGoroutine" && fn.body.isSome
  | none => false
def CW (P : Program) (f : FuncId) (args : List Arg) (out : Out) : Prop :=
  isFn P f = true ∧ backOK args out.back ∧
  ∀ (ι : Nat → Loc) (S : Nat → Nat → Prop) (w : World) (vals : List Value), vals.length = args.length →
    (∀ j, j < args.length → AVR ι (argsOb argBase args 0) S w ((argsAV argBase args 0).getD j (.c .undef)) (vals.getD j Go.undef)) →
    HR ι S (argsOb argBase args 0) w →
    Calls P f vals.toArray w fun e w' => ∃ v ι' S', e = .returned v ∧
      AVR ι' (retOb args out) S' w' (retAV out.res) v ∧ HR ι' S' (retOb args out) w' ∧
      (∀ j, j < args.length → ι' (argBase + 64 * j) = ι (argBase + 64 * j) ∨ (args.getD j (.cv .undef)).lent = false) ∧
      (∀ id, Owned ι' (retOb args out) id → Handed ι (argsOb argBase args 0) (ι' id).block ∨ w.heap.size ≤ (ι' id).block) ∧
      (∀ b {o}, S b o → S' b o) ∧ (∀ b {o}, S' b o → S b o ∨ (Handed ι (argsOb argBase args 0) b ∨ w.heap.size ≤ b) ∧ w'.frozen? ⟨b, o, none⟩ = false) ∧
      Fr (Handed ι (argsOb argBase args 0)) w w'
def CWp (P : Program) (f : FuncId) (args : List Arg) (t : TypeId) (k : IntKind) (n : Int) : Prop :=
  isFn P f = true ∧
  ∀ (ι : Nat → Loc) (S : Nat → Nat → Prop) (w : World) (vals : List Value), vals.length = args.length →
    (∀ j, j < args.length → AVR ι (argsOb argBase args 0) S w ((argsAV argBase args 0).getD j (.c .undef)) (vals.getD j Go.undef)) →
    HR ι S (argsOb argBase args 0) w →
    Calls P f vals.toArray w fun e w' => e = .panicked [{ v := .iface t (.int k n), recovered := false }] ∧ Fr (Handed ι (argsOb argBase args 0)) w w'
inductive Mode where
  | plain
  | view (esz : Nat)
  | move (esz : Nat)
  | mutr
  | ptr (ms : List (Option Nat))
inductive Ins where
  | mv (x : Opd)
  | pick (c x y : Opd)
  | bin (op : BinOp) (x y : Opd)
  | not (x : Opd)
  | cpl (x : Opd)
  | conv (k : IntKind) (x : Opd)
  | b2s (x : Opd)
  | s2b (x : Opd)
  | len (str : Bool) (x : Opd)
  | mn (x y : Opd)
  | mx (x y : Opd)
  | ext (x : Opd) (i : Nat)
  | sidx (x i : Opd)
  | aidx (n : Nat) (x i : Opd)
  | fa (x : Opd) (off : Nat)
  | ia (x i : Opd) (esz : Nat)
  | ld (x : Opd) (n : Option Nat)
  | st (x v : Opd) (n : Option Nat)
  | nck (x : Opd)
  | alloc (z : List CV)
  | box (x : Opd)
  | bld (z : List CV) (ps : List (Nat × Opd))
  | bsl (esz : Nat) (ps : List Opd)
  | slc (x : Opd) (lo hi mx : Option Opd) (esz : Nat)
  | ssl (x : Opd) (lo hi : Option Opd)
  | app (x y : Opd) (esz bytes : Nat) (str : Bool)
  | call (f : Opd) (as0 : List (Opd × Mode))
  | isnil (x : Opd) (neg : Bool)
  | beq (x y : Opd)
  | bne (x y : Opd)
  | mks (n : Nat) (z : CV)
structure IOp where
  d : Option Nat
  u : Nat
  g : Option (Nat × Bool)
  io : Ins
def ungW (g : Prop) (v : AV) (K : AV → Prop) : Prop :=
  match v with
  | .grd b v => (g → b = true) ∧ K v
  | v => K v
def pickW (g0 : Prop) (t : Bool) (x y : AV) (K : AV → Prop) : Prop :=
  match x, y with
  | .c (.bool p), .c (.bool q) => K (.c (.bool (if t then p else q)))
  | .grd g (.c (.bool p)), .c (.bool q) => (g0 → t = true → g = true) ∧ K (.c (.bool (if t then p else q)))
  | .c (.bool p), .grd g (.c (.bool q)) => (g0 → t = false → g = true) ∧ K (.c (.bool (if t then p else q)))
  | .grd g (.c (.bool p)), .grd g' (.c (.bool q)) => (g0 → t = true → g = true) ∧ (g0 → t = false → g' = true) ∧ K (.c (.bool (if t then p else q)))
  | .c (.bool p), _ => (g0 → t = true) ∧ K (.c (.bool p))
  | _, .c (.bool q) => (g0 → t = false) ∧ K (.c (.bool q))
  | .grd g (.c (.bool p)), _ => (g0 → t = true ∧ g = true) ∧ K (.c (.bool p))
  | _, .grd g (.c (.bool q)) => (g0 → t = false ∧ g = true) ∧ K (.c (.bool q))
  | _, _ => False
def bitI (op : BinOp) (k : IntKind) (x y : Int) : Int :=
  match op with
  | .and => k.wrap ((BitVec.ofInt k.bits x &&& BitVec.ofInt k.bits y).toNat : Int)
  | .or => k.wrap ((BitVec.ofInt k.bits x ||| BitVec.ofInt k.bits y).toNat : Int)
  | _ => k.wrap ((BitVec.ofInt k.bits x ^^^ BitVec.ofInt k.bits y).toNat : Int)
def binI (g : Prop) (op : BinOp) (k : IntKind) (x y : Int) (K : CV → Prop) : Prop :=
  match op with
  | .add => K (.int k (k.wrap (x + y)))
  | .sub => K (.int k (k.wrap (x - y)))
  | .mul => K (.int k (k.wrap (x * y)))
  | .quo => (g → y ≠ 0) ∧ K (.int k (k.wrap (x.tdiv y)))
  | .rem => (g → y ≠ 0) ∧ K (.int k (x.tmod y))
  | .and => K (.int k (bitI .and k x y))
  | .or => K (.int k (bitI .or k x y))
  | .xor => K (.int k (bitI .xor k x y))
  | .eql => K (.bool (x == y))
  | .neq => K (.bool (x != y))
  | .lss => K (.bool (decide (x < y)))
  | .leq => K (.bool (decide (x ≤ y)))
  | .gtr => K (.bool (decide (x > y)))
  | .geq => K (.bool (decide (x ≥ y)))
  | _ => False
def shI (g : Prop) (op : BinOp) (k : IntKind) (x y : Int) (K : CV → Prop) : Prop :=
  match op with
  | .shl => (g → 0 ≤ y) ∧ K (.int k (k.wrap (x * 2 ^ (min y.toNat k.bits))))
  | _ => (g → 0 ≤ y) ∧ K (.int k (x.fdiv (2 ^ (min y.toNat k.bits))))
def binS (op : BinOp) (x y : ByteArray) (K : CV → Prop) : Prop :=
  match op with
  | .eql => K (.bool (x.toList == y.toList))
  | .neq => K (.bool (!(x.toList == y.toList)))
  | _ => False
def binF (op : BinOp) (x y : Nat) (K : CV → Prop) : Prop :=
  match op with
  | .eql => K (.bool (FloatKind.format .f64 |>.order x y |> (· == some .eq)))
  | .neq => K (.bool (FloatKind.format .f64 |>.order x y |> (· != some .eq)))
  | _ => False
def binW (g : Prop) (op : BinOp) (x y : AV) (K : CV → Prop) : Prop :=
  ungW g x fun x => ungW g y fun y =>
  match x, y with
  | .c (.int k a), .c (.int k' b) =>
    match op with
    | .shl => shI g .shl k a b K
    | .shr => shI g .shr k a b K
    | op => k = k' ∧ binI g op k a b K
  | .c (.str a), .c (.str b) => binS op a b K
  | .c (.flt a), .c (.flt b) => binF op a b K
  | _, _ => False
def u8 (b : UInt8) : CV := .int .u8 b.toNat
def mkStr (xs : List CV) : ByteArray := ⟨(xs.map fun | .int _ n => UInt8.ofNat n.toNat | _ => 0).toArray⟩
def isU8 : CV → Prop
  | .int .u8 n => True
  | _ => False
def strCells (s : ByteArray) : List CV := s.data.toList.map u8
def lenW (g : Prop) (H : List (Nat × LObj)) (str : Bool) (x : AV) (K : Nat → Prop) : Prop :=
  ungW g x fun x =>
  match str, x with
  | true, .c (.str s) => K s.size
  | false, .c .nilsl => K 0
  | false, .c (.sl _ xs) => K xs.length
  | false, .osl i off len =>
    match LH.get H i with
    | some (.row _ xs) => K len
    | some (.vrow _ xs) => K len
    | _ => False
  | _, _ => False
def elemsW (H : List (Nat × LObj)) (str : Bool) (esz : Nat) (x : AV) (K : List CV → Prop) : Prop :=
  match x with
  | .c .nilsl => K []
  | .c (.sl s xs) => s = esz ∧ K xs
  | .c (.str s) => (str = true ∧ esz = 1) ∧ K (strCells s)
  | .osl i off len =>
    match LH.get H i with
    | some (.row e xs) => e = esz ∧ K ((xs.drop off).take len)
    | some (.vrow e xs) => e = esz ∧ K ((xs.drop off).take len)
    | _ => False
  | _ => False
def setC (x : CV) (f : Nat) (v : CV) : CV :=
  match x with
  | .agg cs => .agg (cs.set f v)
  | _ => v
def closedW : List AV → (List CV → Prop) → Prop
  | [], K => K []
  | .c v :: l, K => closedW l fun vs => K (v :: vs)
  | _ :: _, _ => False
def ldRow (g : Prop) (e : Nat) (x : CV) (f : Nat) (n : Option Nat) (K : AV → Prop) : Prop :=
  match n with
  | none => (g → f < e) ∧ K (.c (x.cells.getD f .undef))
  | some n => (g → f + n ≤ e) ∧ K (.c (.agg ((x.cells.drop f).take n)))
def loadW (g : Prop) (H : List (Nat × LObj)) (x : AV) (n : Option Nat) (K : AV → Prop) : Prop :=
  ungW g x fun x =>
  match x with
  | .ref i off =>
    match LH.get H i with
    | some (.obj cs) =>
      match n with
      | none => off < cs.length ∧ K (cs.getD off (.c .undef))
      | some n => off + n ≤ cs.length ∧ closedW ((cs.drop off).take n) fun vs => K (.c (.agg vs))
    | _ => False
  | .eptr i idx f =>
    match LH.get H i with
    | some (.row e xs) => ldRow g e (xs.getD idx .undef) f n K
    | some (.vrow e xs) => ldRow g e (xs.getD idx .undef) f n K
    | _ => False
  | .vptr cs =>
    match n with
    | none => (g → 0 < cs.length) ∧ K (.c (cs.getD 0 .undef))
    | some n => (g → n ≤ cs.length) ∧ K (.c (.agg (cs.take n)))
  | _ => False
def storable (H : List (Nat × LObj)) : AV → Prop
  | .c v => v.one = true
  | .osl i _ _ =>
    match LH.get H i with
    | some (.row _ _) => True
    | some (.vrow _ _) => True
    | _ => False
  | .ref i _ =>
    match LH.get H i with
    | some (.obj _) => True
    | _ => False
  | _ => False
def storeW (H : List (Nat × LObj)) (x v : AV) (n : Option Nat) (K : List (Nat × LObj) → Prop) : Prop :=
  match x with
  | .ref i off =>
    match LH.get H i with
    | some (.obj cs) =>
      match n with
      | none => off < cs.length ∧ storable H v ∧ K [(i, .obj (cs.set off v))]
      | some n =>
        match v with
        | .c (.agg vs) => (vs.length = n ∧ off + n ≤ cs.length ∧ ∀ c ∈ vs, c.one = true) ∧ K [(i, .obj (cs.take off ++ vs.map .c ++ cs.drop (off + n)))]
        | _ => False
    | _ => False
  | .eptr i idx f =>
    match LH.get H i with
    | some (.row e xs) =>
      match n, v with
      | none, .c v => f < e ∧ v.one = true ∧ K [(i, .row e (xs.set idx (setC (xs.getD idx .undef) f v)))]
      | some n, .c (.agg vs) => (vs.length = n ∧ f = 0 ∧ n = e ∧ ∀ c ∈ vs, c.one = true) ∧ K [(i, .row e (xs.set idx (.agg vs)))]
      | _, _ => False
    | _ => False
  | _ => False
def bldW (σ : List (Nat × AV)) (g : Prop) : List CV → List (Nat × Opd) → (List CV → Prop) → Prop
  | z, [], K => K z
  | z, (i, x) :: ps, K => ungW g (val σ x) fun v =>
    match v with
    | .c v => (i < z.length ∧ v.one = true) ∧ bldW σ g (z.set i v) ps K
    | _ => False
def optI (g : Prop) (σ : List (Nat × AV)) : Option Opd → (Option Int → Prop) → Prop
  | none, K => K none
  | some x, K => ungW g (val σ x) fun v =>
    match v with
    | .c (.int _ n) => K (some n)
    | _ => False
def boundsW (g : Prop) (len : Nat) (lo hi mx : Option Int) (K : Nat → Nat → Prop) : Prop :=
  (g → 0 ≤ lo.getD 0 ∧ lo.getD 0 ≤ hi.getD len ∧ hi.getD len ≤ mx.getD (hi.getD len) ∧ hi.getD len ≤ len ∧ mx.getD len ≤ len) ∧
  K (lo.getD 0).toNat (hi.getD len).toNat
def cellsW (base : Nat) (H : List (Nat × LObj)) : List (Option Nat) → List AV → Nat → (List OC → List (Nat × Option Nat) → List (Nat × LObj) → Prop) → Prop
  | [], [], _, K => K [] [] H
  | none :: ms, .c x :: cs, k, K => cellsW base H ms cs (k + 1) fun l m H' => K (.cv x :: l) m H'
  | some e :: ms, .c .nilsl :: cs, k, K => cellsW base H ms cs (k + 1) fun l m H' => K (.own e [] :: l) ((base + 1 + k, none) :: m) H'
  | some e :: ms, .osl i off len :: cs, k, K =>
    match LH.get H i with
    | some (.row e' xs) => (off = 0 ∧ len = xs.length) ∧ cellsW base (LH.set H i .dead) ms cs (k + 1) fun l m H' => K (.own e' xs :: l) ((base + 1 + k, some i) :: m) H'
    | _ => False
  | _, _, _, _ => False
def argW (g : Prop) (H : List (Nat × LObj)) (id : Nat) (v : AV) (md : Mode) (K : Arg → List (Nat × Option Nat) → List Nat → List (Nat × LObj) → Prop) : Prop :=
  match md with
  | .plain => ungW g v fun v =>
    match v with
    | .c x => K (.cv x) [] [] H
    | _ => False
  | .view esz => ungW g v fun v =>
    match v with
    | .c .nilsl => K (.cv (.sl esz [])) [] [] H
    | .c (.sl s xs) => K (.cv (.sl s xs)) [] [] H
    | .osl i off len =>
      match LH.get H i with
      | some (.row e xs) => K (.cv (.sl e ((xs.drop off).take len))) [] [i] H
      | some (.vrow e xs) => K (.cv (.sl e ((xs.drop off).take len))) [] [] H
      | _ => False
    | _ => False
  | .move esz =>
    match v with
    | .c .nilsl => K (.own esz []) [(id, none)] [] H
    | .osl i off len =>
      match LH.get H i with
      | some (.row e xs) => (off = 0 ∧ len = xs.length) ∧ K (.own e xs) [(id, some i)] [] (LH.set H i .dead)
      | _ => False
    | _ => False
  | .mutr =>
    match v with
    | .osl i off len =>
      match LH.get H i with
      | some (.row e xs) => (off = 0 ∧ len = xs.length) ∧ K (.mutr e xs) [(id, some i)] [] (LH.set H i .dead)
      | _ => False
    | _ => False
  | .ptr ms =>
    match v with
    | .ref i off =>
      match LH.get H i with
      | some (.obj cs) => (off = 0 ∧ cs.length ≤ 15) ∧ cellsW id (LH.set H i .dead) ms cs 0 fun ocs m H' => K (.obj ocs) ((id, some i) :: m) [] H'
      | _ => False
    | _ => False
def argsW (g : Prop) (base : Nat) : List (Nat × LObj) → List (AV × Mode) → Nat →
    (List Arg → List (Nat × Option Nat) → List Nat → List (Nat × LObj) → Prop) → Prop
  | H, [], _, K => K [] [] [] H
  | H, (v, md) :: l, j, K => argW g H (base + 64 * j) v md fun a m V H' =>
      argsW g base H' l (j + 1) fun as0 m' V' H'' => K (a :: as0) (m ++ m') (V ++ V') H''
def impAV (u : Nat) : List OC → Nat → List AV
  | [], _ => []
  | r :: rs, j => r.av (64 * u + j) :: impAV u rs (j + 1)
def impOb (u : Nat) : List OC → Nat → List (Nat × LObj)
  | [], _ => []
  | r :: rs, j => r.ob (64 * u + j) ++ impOb u rs (j + 1)
def impRes (u : Nat) (res : List OC) : AV :=
  match res with
  | [r] => r.av (64 * u)
  | rs => .tup (impAV u rs 0)
def mget (m : List (Nat × Option Nat)) (id : Nat) : Option (Option Nat) :=
  match m with
  | [] => none
  | (k, o) :: m => if k = id then some o else mget m id
def backW (u : Nat) (m : List (Nat × Option Nat)) : List Arg → Nat → List (Nat × LObj)
  | .obj b :: as0, j =>
    match mget m (argBase + 64 * j) with
    | some (some i) => (i, .obj (cellsAV (64 * (u + 1 + j)) b 0)) :: (cellsOb (64 * (u + 1 + j)) b 0 ++ backW u m as0 (j + 1))
    | _ => backW u m as0 (j + 1)
  | .mutr e xs :: as0, j =>
    match mget m (argBase + 64 * j) with
    | some (some i) => (i, .row e xs) :: backW u m as0 (j + 1)
    | _ => backW u m as0 (j + 1)
  | _ :: as0, j => backW u m as0 (j + 1)
  | [], _ => []
def OC.scalar : OC → Prop
  | .cv v => v.scalar = true
  | .own _ xs => ∀ x ∈ xs, x.scalar = true
def fresh (H : List (Nat × LObj)) (u : Nat) : Prop := u < 15000 ∧ ∀ x ∈ H, x.1 / 64 ≠ u
def isLive (H : List (Nat × LObj)) (i : Nat) : Prop :=
  match LH.get H i with
  | some (.row _ _) => True
  | _ => False
def deadOf : List (Nat × Option Nat) → List (Nat × LObj)
  | [] => []
  | (_, some i) :: m => (i, .dead) :: deadOf m
  | (_, none) :: m => deadOf m
def freshC (H : List (Nat × LObj)) (u : Nat) : Prop := u + 10 < 15000 ∧ ∀ x ∈ H, x.1 / 64 < u ∨ u + 9 ≤ x.1 / 64
def callW (P : Program) (g : Prop) (σ : List (Nat × AV)) (H : List (Nat × LObj)) (u : Nat) (f : FuncId) (as0 : List (Opd × Mode)) (K : AV → List (Nat × LObj) → Prop) : Prop :=
  argsW g argBase H (as0.map fun x => (val σ x.1, x.2)) 0 fun args m V H' =>
    ∃ out : Out, (g → CW P f args out) ∧ (∀ i ∈ V, isLive H' i) ∧ (V = [] ∨ (∀ r ∈ out.res, r.scalar) ∧ ∀ b ∈ out.back, ∀ r ∈ b, r.scalar) ∧
      (freshC H u ∧ args.length ≤ 8 ∧ out.res.length ≤ 60 ∧ ∀ b ∈ out.back, b.length ≤ 15) ∧
      K (impRes u out.res) (backW u m (backArgs args out.back) 0 ++ impOb u out.res 0 ++ deadOf m)
def opW (P : Program) (g : Prop) (σ : List (Nat × AV)) (H : List (Nat × LObj)) (u : Nat) (io : Ins) (K : AV → List (Nat × LObj) → Prop) : Prop :=
  match io with
  | .mv x => K (val σ x) []
  | .pick c x y => ungW g (val σ c) fun c =>
    match c with
    | .c (.bool t) => pickW g t (val σ x) (val σ y) fun v => K v []
    | _ => False
  | .bin op x y => binW g op (val σ x) (val σ y) fun v => K (.c v) []
  | .not x => ungW g (val σ x) fun v =>
    match v with
    | .c (.bool b) => K (.c (.bool !b)) []
    | _ => False
  | .cpl x => ungW g (val σ x) fun v =>
    match v with
    | .c (.int k n) => K (.c (.int k (bitI .xor k (if k.signed then -1 else k.max) n))) []
    | _ => False
  | .conv k x => ungW g (val σ x) fun v =>
    match v with
    | .c (.int _ n) => K (.c (.int k (k.wrap n))) []
    | _ => False
  | .b2s x => ungW g (val σ x) fun v => elemsW H false 1 v fun xs => (∀ x ∈ xs, isU8 x) ∧ K (.c (.str (mkStr xs))) []
  | .s2b x =>
    match val σ x with
    | .c (.str s) => fresh H u ∧ s.size ≤ 2 ^ 47 ∧ K (.osl (64 * u) 0 (strCells s).length) [(64 * u, .row 1 (strCells s))]
    | _ => False
  | .len str x => lenW g H str (val σ x) fun n => K (.c (.int .i64 n)) []
  | .mn x y => ungW g (val σ x) fun x => ungW g (val σ y) fun y =>
    match x, y with
    | .c (.int k a), .c (.int k' b) => k = k' ∧ K (.c (.int k (if b < a then b else a))) []
    | _, _ => False
  | .mx x y => ungW g (val σ x) fun x => ungW g (val σ y) fun y =>
    match x, y with
    | .c (.int k a), .c (.int k' b) => k = k' ∧ K (.c (.int k (if b > a then b else a))) []
    | _, _ => False
  | .ext x i => ungW g (val σ x) fun v =>
    match v with
    | .tup l => i < l.length ∧ K (l.getD i (.c .undef)) []
    | _ => False
  | .sidx x i => ungW g (val σ x) fun v => ungW g (val σ i) fun i =>
    match v, i with
    | .c (.str s), .c (.int _ n) => (g → 0 ≤ n ∧ n < s.size) ∧ K (.c (u8 (s.data.toList.getD n.toNat 0))) []
    | _, _ => False
  | .aidx m x i => ungW g (val σ x) fun v => ungW g (val σ i) fun i =>
    match v, i with
    | .c (.agg cs), .c (.int _ n) => cs.length = m ∧ (g → 0 ≤ n ∧ n < m) ∧ K (.c (cs.getD n.toNat .undef)) []
    | _, _ => False
  | .fa x off => ungW g (val σ x) fun v =>
    match v with
    | .ref i o =>
      match LH.get H i with
      | some (.obj cs) => o + off ≤ cs.length ∧ K (.ref i (o + off)) []
      | _ => False
    | .eptr i idx f =>
      match LH.get H i with
      | some (.row _ _) => K (.eptr i idx (f + off)) []
      | some (.vrow _ _) => K (.eptr i idx (f + off)) []
      | _ => False
    | .vptr cs => K (.vptr (cs.drop off)) []
    | _ => False
  | .ia x i esz => ungW g (val σ x) fun v => ungW g (val σ i) fun i =>
    match v, i with
    | .osl id off len, .c (.int _ n) =>
      match LH.get H id with
      | some (.row e xs) => e = esz ∧ (g → 0 ≤ n ∧ n < len) ∧ K (.eptr id (off + n.toNat) 0) []
      | some (.vrow e xs) => e = esz ∧ (g → 0 ≤ n ∧ n < len) ∧ K (.eptr id (off + n.toNat) 0) []
      | _ => False
    | .c (.sl e xs), .c (.int _ n) => e = esz ∧ (g → 0 ≤ n ∧ n < xs.length) ∧ K (.vptr (xs.getD n.toNat .undef).cells) []
    | _, _ => False
  | .ld x n => loadW g H (val σ x) n fun v => K v []
  | .st x v n => storeW H (val σ x) (val σ v) n fun ws => K (.c .undef) ws
  | .nck x => ungW g (val σ x) fun v =>
    match v with
    | .ref i o =>
      match LH.get H i with
      | some (.obj _) => K v []
      | _ => False
    | .vptr _ => K v []
    | .eptr i _ _ =>
      match LH.get H i with
      | some (.row _ _) => K v []
      | some (.vrow _ _) => K v []
      | _ => False
    | _ => False
  | .alloc z => fresh H u ∧ K (.ref (64 * u) 0) [(64 * u, .obj (z.map .c))]
  | .box x =>
    match val σ x with
    | .c (.agg vs) => (fresh H u ∧ ∀ c ∈ vs, c.one = true) ∧ K (.ref (64 * u) 0) [(64 * u, .obj (vs.map .c))]
    | v => (fresh H u ∧ storable H v) ∧ K (.ref (64 * u) 0) [(64 * u, .obj [v])]
  | .bld z ps => bldW σ g z ps fun cs => K (.c (.agg cs)) []
  | .bsl esz ps => closedW (ps.map (val σ)) fun vs => (fresh H u ∧ ∀ v ∈ vs, v.wf esz ∧ (v.one = true ∨ ∃ cs, v = .agg cs)) ∧ K (.osl (64 * u) 0 vs.length) [(64 * u, .row esz vs)]
  | .slc x lo hi mx esz => ungW g (val σ x) fun v => optI g σ lo fun lo => optI g σ hi fun hi => optI g σ mx fun mx =>
    match v with
    | .osl id off len =>
      match LH.get H id with
      | some (.row e xs) => e = esz ∧ mx = none ∧ boundsW g len lo hi mx fun l h => K (.osl id (off + l) (h - l)) []
      | some (.vrow e xs) => e = esz ∧ mx = none ∧ boundsW g len lo hi mx fun l h => K (.osl id (off + l) (h - l)) []
      | _ => False
    | .c (.sl e xs) => e = esz ∧ boundsW g xs.length lo hi mx fun l h => K (.c (.sl e ((xs.drop l).take (h - l)))) []
    | .c .nilsl => boundsW g 0 lo hi mx fun l h => K (.c .nilsl) []
    | _ => False
  | .ssl x lo hi => ungW g (val σ x) fun v => optI g σ lo fun lo => optI g σ hi fun hi =>
    match v with
    | .c (.str s) => boundsW g s.size lo hi none fun l h => K (.c (.str (s.extract l h))) []
    | _ => False
  | .app x y esz bytes str => elemsW H str esz (val σ y) fun ys =>
    match val σ x with
    | .c .nilsl => (fresh H u ∧ ys.length * bytes ≤ 140737488355328) ∧ K (.osl (64 * u) 0 ys.length) [(64 * u, .row esz ys)]
    | .osl id off len =>
      match LH.get H id with
      | some (.row e xs) => (fresh H u ∧ e = esz ∧ (len + ys.length) * bytes ≤ 140737488355328) ∧
          K (.osl (64 * u) 0 (len + ys.length)) [(64 * u, .row esz ((xs.drop off).take len ++ ys)), (id, .dead)]
      | _ => False
    | _ => False
  | .call f as0 =>
    match val σ f with
    | .c (.fn f) => callW P g σ H u f as0 K
    | _ => False
  | .beq x y => ungW g (val σ x) fun x => ungW g (val σ y) fun y =>
    match x, y with
    | .c (.bool p), .c (.bool q) => K (.c (.bool (p == q))) []
    | _, _ => False
  | .bne x y => ungW g (val σ x) fun x => ungW g (val σ y) fun y =>
    match x, y with
    | .c (.bool p), .c (.bool q) => K (.c (.bool (p != q))) []
    | _, _ => False
  | .mks n z => fresh H u ∧ K (.osl (64 * u) 0 n) [(64 * u, .row 1 (List.replicate n z))]
  | .isnil x neg => ungW g (val σ x) fun v =>
    match v with
    | .c .nilsl => K (.c (.bool (!neg))) []
    | .c (.sl _ xs) => (g → xs ≠ []) ∧ K (.c (.bool neg)) []
    | .osl i _ len =>
      match LH.get H i with
      | some (.row _ _) => (g → len ≠ 0) ∧ K (.c (.bool neg)) []
      | some (.vrow _ _) => (g → len ≠ 0) ∧ K (.c (.bool neg)) []
      | _ => False
    | _ => False
def flat (b : Bool) (v : AV) : AV :=
  match v with
  | .grd b' v' => .grd (b && b') v'
  | v => .grd b v
def stepW (P : Program) (σ : List (Nat × AV)) (H : List (Nat × LObj)) (i : IOp) (K : AV → List (Nat × LObj) → Prop) : Prop :=
  match i.g with
  | none => opW P True σ H i.u i.io K
  | some (t, want) =>
    match Slots.get σ t with
    | .c (.bool b) => (opW P ((b == want) = true) σ H i.u i.io fun v ws => ws = [] ∧ K (flat (b == want) v) []) ∨ ((b == want) = false ∧ ∃ v, K (flat (b == want) v) [])
    | .grd b' (.c (.bool b)) => (opW P ((b' && (b == want)) = true) σ H i.u i.io fun v ws => ws = [] ∧ K (flat (b' && (b == want)) v) []) ∨ ((b' && (b == want)) = false ∧ ∃ v, K (flat (b' && (b == want)) v) [])
    | _ => False
def opsW (P : Program) : List IOp → List (Nat × AV) → List (Nat × LObj) → (List (Nat × AV) → List (Nat × LObj) → Prop) → Prop
  | [], σ, H, K => K σ H
  | i :: l, σ, H, K => stepW P σ H i fun v ws => opsW P l (Slots.put σ i.d v) (LH.sets H ws) K
theorem cell_lt {w : World} {b o : Nat} {x : Value} (h : w.cell? ⟨b, o, none⟩ = some x) : b < w.heap.size := World.block_lt_of_cell? w ⟨b, o, none⟩ h
theorem cell_block {w w' : World} {b : Nat} (h : w'.heap[b]? = w.heap[b]?) (o : Nat) : w'.cell? ⟨b, o, none⟩ = w.cell? ⟨b, o, none⟩ :=
  World.cell?_of_block (w := w) (w' := w') (a := ⟨b, o, none⟩) h
theorem frozen_block {w w' : World} {b : Nat} (h : w'.heap[b]? = w.heap[b]?) (o : Nat) : w'.frozen? ⟨b, o, none⟩ = w.frozen? ⟨b, o, none⟩ :=
  World.frozen?_of_block (w := w) (w' := w') (a := ⟨b, o, none⟩) h
def NewAt (ι : Nat → Loc) (S : Nat → Nat → Prop) (H : LH) (w : World) (i : Nat) : Prop :=
  match LH.get H i with
  | some (.obj cs) => ObjR ι H (ι i) S w cs
  | some (.row e xs) => RowR (ι i) S w e xs
  | some (.vrow e xs) => VRowR (ι i) S w e xs
  | _ => True
theorem ObjR.mono {ι ι' : Nat → Loc} {H H' : LH} {S S' : Nat → Nat → Prop} {w w' : World} {L : Loc} {cs : List AV} (h : ObjR ι H L S w cs)
    (k : ∀ b o x, S b o → w.cell? ⟨b, o, none⟩ = some x → S' b o ∧ w'.cell? ⟨b, o, none⟩ = some x)
    (hk : ∀ id o, LH.get H id = some o → ∃ o', LH.get H' id = some o' ∧ Kept ι ι' id o o')
    (hb : w'.heap[L.block]? = w.heap[L.block]?) : ObjR ι' H' L S' w' cs := by
  intro j hj
  obtain ⟨u, h1, h2, h3⟩ := h j hj
  exact ⟨u, by rw [cell_block hb]; exact h1, by rw [frozen_block hb]; exact h2, h3.mono k hk⟩
theorem RowR.mono {S S' : Nat → Nat → Prop} {w w' : World} {L : Loc} {e : Nat} {xs : List CV} (h : RowR L S w e xs)
    (k : ∀ b o x, S b o → w.cell? ⟨b, o, none⟩ = some x → S' b o ∧ w'.cell? ⟨b, o, none⟩ = some x)
    (hb : L.isnil = false → w'.heap[L.block]? = w.heap[L.block]?) : RowR L S' w' e xs := by
  unfold RowR at h ⊢
  split
  · rename_i hn; rw [if_pos hn] at h; exact h
  · rename_i hn
    rw [if_neg hn] at h
    have hb := hb (by simpa using hn)
    obtain ⟨h1, h2, h3, h4⟩ := h
    refine ⟨h1, h2, fun o ho => ?_, fun i j hi hj => ?_⟩
    · rw [cell_block hb, frozen_block hb]; exact h3 o ho
    · obtain ⟨u, hu, hv⟩ := h4 i j hi hj
      exact ⟨u, by rw [cell_block hb]; exact hu, hv.mono k⟩
theorem VRowR.mono {S S' : Nat → Nat → Prop} {w w' : World} {L : Loc} {e : Nat} {xs : List CV} (h : VRowR L S w e xs)
    (k : ∀ b o x, S b o → w.cell? ⟨b, o, none⟩ = some x → S' b o ∧ w'.cell? ⟨b, o, none⟩ = some x) : VRowR L S' w' e xs := by
  unfold VRowR at h ⊢
  split
  · rename_i hn; rw [if_pos hn] at h; exact h
  · rename_i hn
    rw [if_neg hn] at h
    exact h.mono k
theorem Owned.of_eq {ι ι' : Nat → Loc} {H H' : LH} {i : Nat} (h : Owned ι' H' i) (e : LH.get H' i = LH.get H i) (l : ι' i = ι i) : Owned ι H i := by
  unfold Owned at h ⊢
  rw [e] at h
  rw [l] at h
  exact h
theorem HR.upd {ι ι' : Nat → Loc} {S S' : Nat → Nat → Prop} {H H' : LH} {w w' : World} (h : HR ι S H w)
    (hk : ∀ i o, LH.get H i = some o → ∃ o', LH.get H' i = some o' ∧ Kept ι ι' i o o')
    (hv : ∀ b o x, S b o → w.cell? ⟨b, o, none⟩ = some x → S' b o ∧ w'.cell? ⟨b, o, none⟩ = some x)
    (hold : ∀ i, (LH.get H' i = LH.get H i ∧ ι' i = ι i ∧ (Owned ι H i → w'.heap[(ι i).block]? = w.heap[(ι i).block]?)) ∨ NewAt ι' S' H' w' i)
    (hinj : ∀ i j, Owned ι' H' i → Owned ι' H' j → (ι' i).block = (ι' j).block → i = j)
    (hdisj : ∀ i, Owned ι' H' i → ∀ {o}, ¬ S' (ι' i).block o)
    (hlt : ∀ i, Owned ι' H' i → (ι' i).block < w'.heap.size)
    (hslt : ∀ b {o}, S' b o → b < w'.heap.size) : HR ι' S' H' w' := by
  refine ⟨fun id cs e => ?_, fun id es xs e => ?_, fun id es xs e => ?_, hinj, hdisj, hlt, hslt⟩
  · rcases hold id with ⟨e1, e2, e3⟩ | hn
    · have hg := e1 ▸ e
      have := h.obj id cs hg
      rw [e2]
      exact this.mono hv hk (e3 (by unfold Owned; rw [hg]; trivial))
    · unfold NewAt at hn; rw [e] at hn; exact hn
  · rcases hold id with ⟨e1, e2, e3⟩ | hn
    · have hg := e1 ▸ e
      have := h.row id es xs hg
      rw [e2]
      exact this.mono hv (fun hnil => e3 (by unfold Owned; rw [hg]; exact hnil))
    · unfold NewAt at hn; rw [e] at hn; exact hn
  · rcases hold id with ⟨e1, e2, e3⟩ | hn
    · have hg := e1 ▸ e
      have := h.vrow id es xs hg
      rw [e2]
      exact this.mono hv
    · unfold NewAt at hn; rw [e] at hn; exact hn
theorem R.upd {C : Ctx} {ι ι' : Nat → Loc} {S S' : Nat → Nat → Prop} {σ : Slots} {H H' : LH} {a : Act} {w w' : World} (h : R C ι S σ H a w)
    (hfr : Fr C.O C.w0 w')
    (hk : ∀ i o, LH.get H i = some o → ∃ o', LH.get H' i = some o' ∧ Kept ι ι' i o o')
    (hv : ∀ b o x, S b o → w.cell? ⟨b, o, none⟩ = some x → S' b o ∧ w'.cell? ⟨b, o, none⟩ = some x)
    (hS : ∀ b {o}, S b o → S' b o)
    (hold : ∀ i, (LH.get H' i = LH.get H i ∧ ι' i = ι i ∧ (Owned ι H i → w'.heap[(ι i).block]? = w.heap[(ι i).block]?)) ∨ NewAt ι' S' H' w' i)
    (hinj : ∀ i j, Owned ι' H' i → Owned ι' H' j → (ι' i).block = (ι' j).block → i = j)
    (hdisj : ∀ i, Owned ι' H' i → ∀ {o}, ¬ S' (ι' i).block o)
    (hlt : ∀ i, Owned ι' H' i → (ι' i).block < w'.heap.size)
    (hslt : ∀ b {o}, S' b o → b < w'.heap.size)
    (hown : ∀ id, Owned ι' H' id → C.O (ι' id).block ∨ C.w0.heap.size ≤ (ι' id).block)
    (hsup : ∀ b {o}, S' b o → C.S0 b o ∨ (C.O b ∨ C.w0.heap.size ≤ b) ∧ w'.frozen? ⟨b, o, none⟩ = false)
    (hloc : ∀ id ob, LH.get H' id = some ob → ob.own → argBase ≤ id → ι' id = C.ι0 id) : R C ι' S' σ H' a w' :=
  ⟨hfr, h.hr.upd hk hv hold hinj hdisj hlt hslt, fun t => (h.sl t).mono hv hk, hown, hsup, fun b _ hb => hS b (h.sub b hb), hloc, h.size, h.defs⟩
theorem R.sup' {C : Ctx} {ι : Nat → Loc} {S : Nat → Nat → Prop} {σ : Slots} {H : LH} {a : Act} {w w' : World} (h : R C ι S σ H a w)
    (hb : ∀ b {o}, S b o → w'.heap[b]? = w.heap[b]?) : ∀ b {o}, S b o → C.S0 b o ∨ (C.O b ∨ C.w0.heap.size ≤ b) ∧ w'.frozen? ⟨b, o, none⟩ = false := fun b o hs =>
  (h.sup b hs).imp id (And.imp id fun f => by rw [frozen_block (hb b hs)]; exact f)
theorem R.heap {C : Ctx} {ι : Nat → Loc} {S : Nat → Nat → Prop} {σ : Slots} {H : LH} {a : Act} {w w' : World} (h : R C ι S σ H a w)
    (hh : w'.heap = w.heap) (ho : w'.os = w.os) (ht : w'.tape = w.tape) (hp : w'.output = w.output) : R C ι S σ H a w' := by
  have hb : ∀ b : Nat, w'.heap[b]? = w.heap[b]? := fun b => by rw [hh]
  refine h.upd ⟨ho.trans h.fr.os, ht.trans h.fr.tape, hp.trans h.fr.output, by rw [hh]; exact h.fr.size, fun k hk hO => by rw [hb]; exact h.fr.block k hk hO⟩
    (fun i o e => ⟨o, e, Kept.refl _ _ _⟩) (fun b o x hs hx => ⟨hs, by rw [cell_block (hb b)]; exact hx⟩) (fun _ _ h => h)
    (fun i => .inl ⟨rfl, rfl, fun _ => hb _⟩) h.hr.inj h.hr.disj (fun i hi => by rw [hh]; exact h.hr.lt i hi) (fun b _ hb => by rw [hh]; exact h.hr.slt b hb) h.own (h.sup' fun b _ _ => hb b) h.loc
def updL (ι : Nat → Loc) (i : Nat) (L : Loc) : Nat → Loc := fun j => if j = i then L else ι j
theorem updL_same (ι : Nat → Loc) (i : Nat) (L : Loc) : updL ι i L i = L := by simp [updL]
theorem updL_ne (ι : Nat → Loc) {i j : Nat} (L : Loc) (h : j ≠ i) : updL ι i L j = ι j := by simp [updL, h]
theorem R.new {C : Ctx} {ι : Nat → Loc} {S : Nat → Nat → Prop} {σ : Slots} {H : LH} {a : Act} {w w' : World} (h : R C ι S σ H a w) (i : Nat) (hn : LH.get H i = none) (hi : i < argBase)
    (L : Loc) (hL : L.isnil = false → L.block = w.heap.size) (ob : Obj) (o : LObj) (hnil : L.isnil = true → ∃ e xs, o = .row e xs)
    (hh : w'.heap = w.heap.push ob ∨ (w'.heap = w.heap ∧ L.isnil = true)) (ho : w'.os = w.os) (ht : w'.tape = w.tape) (hp : w'.output = w.output)
    (hnew : NewAt (updL ι i L) S (LH.set H i o) w' i) : R C (updL ι i L) S σ (LH.set H i o) a w' := by
  have hb : ∀ b : Nat, b < w.heap.size → w'.heap[b]? = w.heap[b]? := fun b hb => by
    rcases hh with hh | ⟨hh, _⟩
    · rw [hh, Array.getElem?_push, if_neg (by omega)]
    · rw [hh]
  have hsz : w.heap.size ≤ w'.heap.size := by
    rcases hh with hh | ⟨hh, _⟩
    · rw [hh]; simp
    · rw [hh]; exact Nat.le_refl _
  have hget : ∀ j, LH.get (LH.set H i o) j = if j = i then some o else LH.get H j := fun j => LH.get_set H i j o
  have ho1 : ∀ j, j ≠ i → Owned (updL ι i L) (LH.set H i o) j → Owned ι H j := fun j hj hw => hw.of_eq (by rw [hget, if_neg hj]) (updL_ne ι L hj)
  have hoi : Owned (updL ι i L) (LH.set H i o) i → L.isnil = false := fun hw => by
    cases hl : L.isnil with
    | false => rfl
    | true =>
      obtain ⟨e, xs, rfl⟩ := hnil hl
      unfold Owned at hw
      rw [hget, if_pos rfl, updL_same] at hw
      simp [hl] at hw
  have hpush : Owned (updL ι i L) (LH.set H i o) i → w'.heap.size = w.heap.size + 1 := fun hw => by
    rcases hh with hh | ⟨hh, hl⟩
    · rw [hh]; simp
    · rw [hoi hw] at hl; cases hl
  have hne : ∀ j, j ≠ i → Owned (updL ι i L) (LH.set H i o) j → Owned (updL ι i L) (LH.set H i o) i → (ι j).block ≠ L.block := fun j hj hw hwi e => by
    have h1 := h.hr.lt j (ho1 j hj hw)
    rw [e, hL (hoi hwi)] at h1
    omega
  refine h.upd ⟨ho.trans h.fr.os, ht.trans h.fr.tape, hp.trans h.fr.output, Nat.le_trans h.fr.size hsz, fun k hk hO => by rw [hb k (Nat.lt_of_lt_of_le hk h.fr.size)]; exact h.fr.block k hk hO⟩
    (fun j p e => ?_) (fun b p x hs hx => ⟨hs, by rw [cell_block (hb b (cell_lt hx))]; exact hx⟩) (fun _ _ h => h) (fun j => ?_) (fun j k hj hk e => ?_) (fun j hj {o} => ?_) (fun j hj => ?_) (fun b _ hb => Nat.lt_of_lt_of_le (h.hr.slt b hb) hsz) (fun j hj => ?_) (h.sup' fun b _ hs => hb b (h.hr.slt b hs)) (fun j cs e hoo hj => ?_)
  · have hj : j ≠ i := fun e' => by rw [e', hn] at e; cases e
    refine ⟨p, by rw [hget, if_neg hj]; exact e, ?_⟩
    have := Kept.refl ι j p
    unfold Kept at this ⊢
    cases p <;> simp_all [updL_ne]
  · by_cases hj : j = i
    · subst hj; exact .inr hnew
    · refine .inl ⟨by rw [hget, if_neg hj], updL_ne ι L hj, fun hw => hb _ (h.hr.lt j hw)⟩
  · by_cases hji : j = i
    · by_cases hki : k = i
      · rw [hji, hki]
      · rw [hji, updL_same, updL_ne ι L hki] at e
        exact absurd e.symm (hne k hki hk (hji ▸ hj))
    · by_cases hki : k = i
      · rw [hki, updL_same, updL_ne ι L hji] at e
        exact absurd e (hne j hji hj (hki ▸ hk))
      · rw [updL_ne ι L hji, updL_ne ι L hki] at e
        exact h.hr.inj j k (ho1 j hji hj) (ho1 k hki hk) e
  · by_cases hji : j = i
    · subst hji
      rw [updL_same, hL (hoi hj)]
      intro hs
      exact absurd (h.hr.slt _ hs) (by omega)
    · rw [updL_ne ι L hji]; exact h.hr.disj j (ho1 j hji hj)
  · by_cases hji : j = i
    · subst hji
      rw [updL_same, hL (hoi hj), hpush hj]; omega
    · rw [updL_ne ι L hji]; exact Nat.lt_of_lt_of_le (h.hr.lt j (ho1 j hji hj)) hsz
  · by_cases hji : j = i
    · subst hji
      rw [updL_same, hL (hoi hj)]; exact .inr h.fr.size
    · rw [updL_ne ι L hji]; exact h.own j (ho1 j hji hj)
  · have hji : j ≠ i := fun e' => by omega
    rw [hget, if_neg hji] at e
    rw [updL_ne ι L hji]; exact h.loc j cs e hoo hj
theorem R.write {C : Ctx} {ι : Nat → Loc} {S : Nat → Nat → Prop} {σ : Slots} {H : LH} {a : Act} {w w' : World} (h : R C ι S σ H a w) {i : Nat} {o o' : LObj}
    (hg : LH.get H i = some o) (hw : Owned ι H i) (hk : Kept ι ι i o o') (hd : o' ≠ .dead)
    (hb : ∀ b, b ≠ (ι i).block → w'.heap[b]? = w.heap[b]?) (hsz : w'.heap.size = w.heap.size)
    (ho : w'.os = w.os) (ht : w'.tape = w.tape) (hp : w'.output = w.output)
    (hnew : NewAt ι S (LH.set H i o') w' i) : R C ι S σ (LH.set H i o') a w' := by
  have hget : ∀ j, LH.get (LH.set H i o') j = if j = i then some o' else LH.get H j := fun j => LH.get_set H i j o'
  have ho1 : ∀ j, Owned ι (LH.set H i o') j → Owned ι H j := fun j hj => by
    by_cases e : j = i
    · subst e; exact hw
    · exact hj.of_eq (by rw [hget, if_neg e]) rfl
  refine h.upd ⟨ho.trans h.fr.os, ht.trans h.fr.tape, hp.trans h.fr.output, by rw [hsz]; exact h.fr.size, fun k hk hO => ?_⟩
    (fun j p e => ?_) (fun b p x hs hx => ⟨hs, ?_⟩) (fun _ _ h => h) (fun j => ?_) (fun j k hj hk e => h.hr.inj j k (ho1 j hj) (ho1 k hk) e) (fun j hj => h.hr.disj j (ho1 j hj))
    (fun j hj => by rw [hsz]; exact h.hr.lt j (ho1 j hj)) (fun b _ hb => by rw [hsz]; exact h.hr.slt b hb) (fun j hj => h.own j (ho1 j hj)) (h.sup' fun b _ hs => hb b (fun e => h.hr.disj i hw (e ▸ hs))) (fun j cs e hoo hj => ?_)
  · rw [hb k ?_]
    · exact h.fr.block k hk hO
    · intro e
      rcases h.own i hw with h1 | h1
      · exact hO (e ▸ h1)
      · omega
  · by_cases hj : j = i
    · subst hj
      rw [hg] at e
      cases e
      exact ⟨o', by rw [hget, if_pos rfl], hk⟩
    · exact ⟨p, by rw [hget, if_neg hj]; exact e, Kept.refl _ _ _⟩
  · rw [cell_block (hb b (fun e => h.hr.disj i hw (e ▸ hs)))]; exact hx
  · by_cases hj : j = i
    · subst hj; exact .inr hnew
    · refine .inl ⟨by rw [hget, if_neg hj], rfl, fun hw' => hb _ (fun e => hj (h.hr.inj j i hw' hw e))⟩
  · by_cases hji : j = i
    · subst hji
      refine h.loc _ _ hg ?_ hj
      unfold Owned at hw
      rw [hg] at hw
      cases o <;> first | trivial | exact hw.elim
    · rw [hget, if_neg hji] at e; exact h.loc j cs e hoo hj
theorem R.move {C : Ctx} {ι : Nat → Loc} {S : Nat → Nat → Prop} {σ : Slots} {H : LH} {a : Act} {w w' : World} (h : R C ι S σ H a w) {i n e : Nat} {xs ys : List CV}
    (hg : LH.get H i = some (.row e xs)) (hn : LH.get H n = none) (hlt : n < argBase) (L : Loc) (ob : Obj)
    (hc : (L.isnil = false ∧ (ι i).isnil = false ∧ L.block = (ι i).block ∧ (∀ b, b ≠ (ι i).block → w'.heap[b]? = w.heap[b]?) ∧ w'.heap.size = w.heap.size) ∨
      (L.isnil = false ∧ L.block = w.heap.size ∧ w'.heap = w.heap.push ob) ∨ (L.isnil = true ∧ w'.heap = w.heap))
    (ho : w'.os = w.os) (ht : w'.tape = w.tape) (hp : w'.output = w.output)
    (hnew : NewAt (updL ι n L) S (LH.set (LH.set H i .dead) n (.row e ys)) w' n) : R C (updL ι n L) S σ (LH.set (LH.set H i .dead) n (.row e ys)) a w' := by
  have hin : i ≠ n := fun e' => by rw [e', hn] at hg; cases hg
  have hget : ∀ j, LH.get (LH.set (LH.set H i .dead) n (.row e ys)) j = if j = n then some (.row e ys) else if j = i then some .dead else LH.get H j := fun j => by
    rw [LH.get_set, LH.get_set]
  have hbase : ∀ b : Nat, b < w.heap.size → (L.isnil = false → (ι i).isnil = false → b ≠ (ι i).block) → w'.heap[b]? = w.heap[b]? := fun b hb hne => by
    rcases hc with ⟨h1, h2, _, h3, _⟩ | ⟨_, _, h3⟩ | ⟨_, h3⟩
    · exact h3 b (hne h1 h2)
    · rw [h3, Array.getElem?_push, if_neg (by omega)]
    · rw [h3]
  have hsz : w.heap.size ≤ w'.heap.size := by
    rcases hc with ⟨_, _, _, _, h3⟩ | ⟨_, _, h3⟩ | ⟨_, h3⟩
    · omega
    · rw [h3]; simp
    · rw [h3]; exact Nat.le_refl _
  have hwi : (ι i).isnil = false → Owned ι H i := fun hl => by unfold Owned; rw [hg]; exact hl
  have hO1 : ∀ j, j ≠ n → Owned (updL ι n L) (LH.set (LH.set H i .dead) n (.row e ys)) j → j ≠ i ∧ Owned ι H j := fun j hj hw => by
    by_cases hji : j = i
    · exfalso
      unfold Owned at hw
      rw [hget, if_neg hj, if_pos hji] at hw
      exact hw
    · exact ⟨hji, hw.of_eq (by rw [hget, if_neg hj, if_neg hji]) (updL_ne ι L hj)⟩
  have hOn : Owned (updL ι n L) (LH.set (LH.set H i .dead) n (.row e ys)) n → L.isnil = false := fun hw => by
    unfold Owned at hw
    rw [hget, if_pos rfl, updL_same] at hw
    exact hw
  have hLb : L.isnil = false → ((ι i).isnil = false ∧ L.block = (ι i).block) ∨ (L.block = w.heap.size ∧ w'.heap.size = w.heap.size + 1) := fun hl => by
    rcases hc with ⟨h1, h2, h3, _, _⟩ | ⟨_, h2, h3⟩ | ⟨h1, _⟩
    · exact .inl ⟨h2, h3⟩
    · exact .inr ⟨h2, by rw [h3]; simp⟩
    · rw [hl] at h1; cases h1
  have hne : ∀ j, j ≠ n → Owned (updL ι n L) (LH.set (LH.set H i .dead) n (.row e ys)) j → Owned (updL ι n L) (LH.set (LH.set H i .dead) n (.row e ys)) n → (ι j).block ≠ L.block := fun j hj hw hwn e' => by
    obtain ⟨hji, hoj⟩ := hO1 j hj hw
    rcases hLb (hOn hwn) with ⟨h1, h2⟩ | ⟨h1, _⟩
    · exact hji (h.hr.inj j i hoj (hwi h1) (e'.trans h2))
    · have := h.hr.lt j hoj; omega
  refine h.upd ⟨ho.trans h.fr.os, ht.trans h.fr.tape, hp.trans h.fr.output, Nat.le_trans h.fr.size hsz, fun k hk hO => ?_⟩
    (fun j p e' => ?_) (fun b p x hs hx => ⟨hs, ?_⟩) (fun _ _ h => h) (fun j => ?_) (fun j k hj hk e' => ?_) (fun j hj {o} => ?_) (fun j hj => ?_) (fun b _ hb => Nat.lt_of_lt_of_le (h.hr.slt b hb) hsz) (fun j hj => ?_) (h.sup' fun b _ hs => hbase b (h.hr.slt b hs) (fun _ hl e' => h.hr.disj i (hwi hl) (e' ▸ hs))) (fun j cs e' hoo hj => ?_)
  · rw [hbase k (Nat.lt_of_lt_of_le hk h.fr.size) (fun _ hl e' => ?_)]
    · exact h.fr.block k hk hO
    · rcases h.own i (hwi hl) with h1 | h1
      · exact hO (e' ▸ h1)
      · omega
  · by_cases hj : j = i
    · subst hj
      exact ⟨.dead, by rw [hget, if_neg hin, if_pos rfl], by simp [Kept]⟩
    · have hjn : j ≠ n := fun h' => by rw [h', hn] at e'; cases e'
      refine ⟨p, by rw [hget, if_neg hjn, if_neg hj]; exact e', ?_⟩
      have := Kept.refl ι j p
      unfold Kept at this ⊢
      cases p <;> simp_all [updL_ne]
  · rw [cell_block (hbase b (cell_lt hx) (fun _ hl e' => h.hr.disj i (hwi hl) (e' ▸ hs)))]; exact hx
  · by_cases hj : j = n
    · subst hj; exact .inr hnew
    · by_cases hji : j = i
      · right
        unfold NewAt
        rw [hget, if_neg hj, if_pos hji]
        trivial
      · exact .inl ⟨by rw [hget, if_neg hj, if_neg hji], updL_ne ι L hj, fun hw' => hbase _ (h.hr.lt j hw') (fun _ hl e' => hji (h.hr.inj j i hw' (hwi hl) e'))⟩
  · by_cases hji : j = n
    · by_cases hki : k = n
      · rw [hji, hki]
      · rw [hji, updL_same, updL_ne ι L hki] at e'
        exact absurd e'.symm (hne k hki hk (hji ▸ hj))
    · by_cases hki : k = n
      · rw [hki, updL_same, updL_ne ι L hji] at e'
        exact absurd e' (hne j hji hj (hki ▸ hk))
      · rw [updL_ne ι L hji, updL_ne ι L hki] at e'
        exact h.hr.inj j k (hO1 j hji hj).2 (hO1 k hki hk).2 e'
  · by_cases hji : j = n
    · subst hji
      rw [updL_same]
      rcases hLb (hOn hj) with ⟨h1, h2⟩ | ⟨h1, _⟩
      · rw [h2]; exact h.hr.disj i (hwi h1)
      · intro hs; exact absurd (h.hr.slt _ hs) (by omega)
    · rw [updL_ne ι L hji]; exact h.hr.disj j (hO1 j hji hj).2
  · by_cases hji : j = n
    · subst hji
      rw [updL_same]
      rcases hLb (hOn hj) with ⟨h1, h2⟩ | ⟨h1, h2⟩
      · rw [h2]; exact Nat.lt_of_lt_of_le (h.hr.lt i (hwi h1)) hsz
      · omega
    · rw [updL_ne ι L hji]; exact Nat.lt_of_lt_of_le (h.hr.lt j (hO1 j hji hj).2) hsz
  · by_cases hji : j = n
    · subst hji
      rw [updL_same]
      rcases hLb (hOn hj) with ⟨h1, h2⟩ | ⟨h1, h2⟩
      · rw [h2]; exact h.own i (hwi h1)
      · rw [h1]; exact .inr h.fr.size
    · rw [updL_ne ι L hji]; exact h.own j (hO1 j hji hj).2
  · have hjn : j ≠ n := fun h' => by omega
    rw [hget, if_neg hjn] at e'
    split at e'
    · cases e'; exact hoo.elim
    · rw [updL_ne ι L hjn]; exact h.loc j cs e' hoo hj
def pubS (L : Loc) (e : Nat) (b o : Nat) : Prop := L.isnil = false ∧ b = L.block ∧ L.off ≤ o ∧ o < L.off + L.cap * e
theorem grid_cap {n cap e i j : Nat} (h : n ≤ cap) (hi : i < n) (hj : j < e) : i * e + j < cap * e := by
  have h1 : i * e + e ≤ cap * e := by rw [← Nat.succ_mul]; exact Nat.mul_le_mul_right _ (Nat.le_trans hi h)
  omega
theorem R.pub {C : Ctx} {ι : Nat → Loc} {S : Nat → Nat → Prop} {σ : Slots} {H : LH} {a : Act} {w : World} (h : R C ι S σ H a w) {i e : Nat} {xs : List CV}
    (hg : LH.get H i = some (.row e xs)) : ∃ S', R C ι S' σ (LH.set H i (.vrow e xs)) a w := by
  have hget : ∀ j, LH.get (LH.set H i (.vrow e xs)) j = if j = i then some (.vrow e xs) else LH.get H j := fun j => LH.get_set H i j _
  have ho1 : ∀ j, Owned ι (LH.set H i (.vrow e xs)) j → j ≠ i ∧ Owned ι H j := fun j hj => by
    by_cases e' : j = i
    · exfalso
      unfold Owned at hj
      rw [hget, if_pos e'] at hj
      exact hj
    · exact ⟨e', hj.of_eq (by rw [hget, if_neg e']) rfl⟩
  have hwi : (ι i).isnil = false → Owned ι H i := fun hl => by unfold Owned; rw [hg]; exact hl
  refine ⟨fun b o => S b o ∨ pubS (ι i) e b o, ?_⟩
  refine h.upd h.fr (fun j p e' => ?_) (fun b p x hs hx => ⟨.inl hs, hx⟩) (fun _ _ h => .inl h) (fun j => ?_) (fun j k hj hk e' => h.hr.inj j k (ho1 j hj).2 (ho1 k hk).2 e') (fun j hj {o} => ?_)
    (fun j hj => h.hr.lt j (ho1 j hj).2) (fun b o hb => ?_) (fun j hj => h.own j (ho1 j hj).2) (fun b o hb => ?_) (fun j cs e' hoo hj => ?_)
  · by_cases hj : j = i
    · subst hj
      rw [hg] at e'
      cases e'
      exact ⟨_, by rw [hget, if_pos rfl], by simp [Kept]⟩
    · exact ⟨p, by rw [hget, if_neg hj]; exact e', Kept.refl _ _ _⟩
  · by_cases hj : j = i
    · subst hj
      right
      unfold NewAt
      rw [hget, if_pos rfl]
      have hr := h.hr.row _ _ _ hg
      show VRowR _ _ _ _ _
      unfold RowR at hr
      unfold VRowR
      split
      · rename_i hl; rw [if_pos hl] at hr; exact hr
      · rename_i hl
        rw [if_neg hl] at hr
        obtain ⟨h1, h2, h3, h4⟩ := hr
        have hl' : (ι j).isnil = false := by simpa using hl
        have hch : ∀ p : Nat × Nat, ∃ u, p.1 < xs.length → p.2 < e → (w.cell? ⟨(ι j).block, (ι j).off + (p.1 * e + p.2), none⟩ = some u ∧ VR w S ((xs.getD p.1 .undef).cells.getD p.2 .undef) u) := fun p => by
          by_cases hp : p.1 < xs.length ∧ p.2 < e
          · obtain ⟨u, hu⟩ := h4 p.1 p.2 hp.1 hp.2
            exact ⟨u, fun _ _ => hu⟩
          · exact ⟨Go.undef, fun a b => absurd ⟨a, b⟩ hp⟩
        refine .sl e xs _ _ _ (fun p q => Classical.choose (hch (p, q))) h1 h2 (fun p q hp hq => ?_) (fun p q hp hq => ?_)
        · exact ⟨.inr ⟨hl', rfl, by omega, by have := grid_cap h1 hp hq; omega⟩, (Classical.choose_spec (hch (p, q)) hp hq).1⟩
        · exact (Classical.choose_spec (hch (p, q)) hp hq).2.mono fun b o x hs hx => ⟨.inl hs, hx⟩
    · exact .inl ⟨by rw [hget, if_neg hj], rfl, fun _ => rfl⟩
  · rintro (hs | ⟨hl, hs, -, -⟩)
    · exact h.hr.disj j (ho1 j hj).2 hs
    · exact (ho1 j hj).1 (h.hr.inj j i (ho1 j hj).2 (hwi hl) hs)
  · rcases hb with hb | ⟨hl, rfl, -, -⟩
    · exact h.hr.slt b hb
    · exact h.hr.lt i (hwi hl)
  · rcases hb with hb | ⟨hl, rfl, h5, h6⟩
    · exact h.sup b hb
    · have hr := h.hr.row _ _ _ hg
      unfold RowR at hr
      rw [if_neg (by simp [hl])] at hr
      have h7 := (hr.2.2.1 (o - (ι i).off) (by omega)).2
      rw [show (ι i).off + (o - (ι i).off) = o by omega] at h7
      exact .inr ⟨h.own i (hwi hl), h7⟩
  · rw [hget] at e'
    split at e'
    · cases e'; exact hoo.elim
    · exact h.loc j cs e' hoo hj
def constOK : Value → CV → Bool
  | .bool b, .bool c => b == c
  | .int k n, .int k' m => decide (k = k') && decide (n = m)
  | .float .f64 n, .flt m => n == m
  | .string s, .str t => decide (s.data = t.data)
  | .slice none 0 0, .nilsl => true
  | .slice none 0 0, .sl _ [] => true
  | .nilFunc, .nilfn => true
  | _, _ => false
def chkOpd : Operand → Opd → Bool
  | .tmp n, .t m => n == m
  | .const v, .c x => constOK v x
  | .func f, .c (.fn g) => f == g
  | _, _ => false
def uSlice (P : Program) (t : TypeId) (k : TypeId → Bool) : Bool :=
  match P.underlying t with
  | some (.slice e) => k e
  | _ => false
def uAgg (P : Program) (t : TypeId) : Option Bool :=
  match P.underlying t with
  | some (.struct _) => some true
  | some (.array _ _) => some true
  | some _ => some false
  | none => none
def szOf (P : Program) (t : TypeId) : Option Nat := (P.info? t).map (·.size)
def isInt (P : Program) (t : TypeId) (k : IntKind) : Bool :=
  match P.underlying t with
  | some (.int k') => decide (k = k')
  | _ => false
def isStr (P : Program) (t : TypeId) : Bool :=
  match P.underlying t with
  | some .string => true
  | _ => false
theorem ev {C : Ctx} {ι : Nat → Loc} {S : Nat → Nat → Prop} {σ : Slots} {H : LH} {a : Act} {w : World} (h : R C ι S σ H a w) {x : Operand} {y : Opd} (hc : chkOpd x y = true) :
    AVR ι H S w (val σ y) (a.eval x) := by
  unfold chkOpd at hc
  split at hc
  · simp at hc; subst hc; exact h.sl _
  · rename_i v x
    unfold constOK at hc
    split at hc
    · simp at hc; subst hc; exact .c _ _ (.bool _)
    · simp at hc; obtain ⟨rfl, rfl⟩ := hc; exact .c _ _ (.int _ _)
    · simp at hc; subst hc; exact .c _ _ (.flt _)
    · rename_i s t
      obtain ⟨s⟩ := s
      obtain ⟨t⟩ := t
      simp at hc; subst hc; exact .c _ _ (.str _)
    · exact .c _ _ .nilsl
    · exact .c _ _ (.slnil _ _ _)
    · exact .c _ _ .nilfn
    · cases hc
  · simp at hc; subst hc; exact .c _ _ (.fn _)
  · cases hc
theorem ung {ι : Nat → Loc} {S : Nat → Nat → Prop} {H : LH} {w : World} {g : Prop} {v : AV} {u : Value} {K : AV → Prop} (hw : ungW g v K) (hg : g) (hv : AVR ι H S w v u) :
    ∃ v', AVR ι H S w v' u ∧ K v' := by
  unfold ungW at hw
  split at hw
  · cases hv with
    | grd b v u h h0 => exact ⟨_, h (hw.1 hg), hw.2⟩
  · exact ⟨_, hv, hw⟩
def Res (P : Program) (C : Ctx) (σ : Slots) (H : LH) (a : Act) (w : World) (o : Oper) (K : AV → List (Nat × LObj) → Prop) : Prop :=
  ∃ n v w' ι' S' av ws, (execOp a.eval o).run P w = .ok n w' ∧ (n = .value v ∨ (n = .skip ∧ v = Go.undef)) ∧ K av ws ∧
    R C ι' S' σ (LH.sets H ws) a w' ∧ AVR ι' (LH.sets H ws) S' w' av v
section
variable {P : Program} {C : Ctx} {ι : Nat → Loc} {S : Nat → Nat → Prop} {σ : Slots} {H : LH} {a : Act} {w : World} {o : Oper} {K : AV → List (Nat × LObj) → Prop} {g : Prop} {u : Nat}
theorem Res.pure (h : R C ι S σ H a w) {v : Value} {av : AV} (hr : (execOp a.eval o).run P w = .ok (.value v) w) (hK : K av []) (hv : AVR ι H S w av v) : Res P C σ H a w o K :=
  ⟨_, v, w, ι, S, av, [], hr, .inl rfl, hK, h, hv⟩
theorem wp_of_Res (h : Res P C σ H a w o K) {N : Act → World → Prop} {Q : Exit → Act → World → Prop}
    (hN : ∀ av ws ι' S' w' v, K av ws → R C ι' S' σ (LH.sets H ws) a w' → AVR ι' (LH.sets H ws) S' w' av v → N (a.put o.dst v) w') : o.wp P a w N Q := by
  obtain ⟨n, v, w', ι', S', av, ws, hr, hn, hK, hR, hv⟩ := h
  unfold Oper.wp
  rw [hr]
  rcases hn with rfl | ⟨rfl, rfl⟩
  · exact hN _ _ _ _ _ _ hK hR hv
  · exact hN _ _ _ _ _ _ hK hR hv
theorem res_mv (h : R C ι S σ H a w) {x : Operand} {y : Opd} (ho : o.op = .move x ∨ o.op = .assign x) (hc : chkOpd x y = true) (hw : opW P g σ H u (.mv y) K) : Res P C σ H a w o K := by
  refine Res.pure h (v := a.eval x) (av := val σ y) ?_ hw (ev h hc)
  rcases ho with ho | ho <;> simp [execOp, ho, pure, Sem.run]
theorem avr_bool {v : AV} {u : Value} {t : Bool} (hv : AVR ι H S w (.c (.bool t)) u) : u = .bool t := by
  cases hv with
  | c _ _ h => cases h; rfl
theorem avr_int {u : Value} {k : IntKind} {n : Int} (hv : AVR ι H S w (.c (.int k n)) u) : u = .int k n := by
  cases hv with
  | c _ _ h => cases h; rfl
theorem avr_str {u : Value} {s : ByteArray} (hv : AVR ι H S w (.c (.str s)) u) : u = .string s := by
  cases hv with
  | c _ _ h => cases h; rfl
theorem avr_flt {u : Value} {s : Nat} (hv : AVR ι H S w (.c (.flt s)) u) : u = .float .f64 s := by
  cases hv with
  | c _ _ h => cases h; rfl
theorem avr_nilsl {u : Value} (hv : AVR ι H S w (.c .nilsl) u) : u = .slice none 0 0 := by
  cases hv with
  | c _ _ h => cases h; rfl
theorem runV {s : Sem Value} {v : Value} {w' : World} (hr : s.run P w = .ok v w') : (do pure (.value (← s)) : Sem Next).run P w = .ok (.value v) w' := by
  rw [Sem.run_bind, hr]
  simp [pure, Sem.run]
theorem res_pick (h : R C ι S σ H a w) {x y z : Operand} {x' y' z' : Opd} (ho : o.op = .pick x y z) (h1 : chkOpd x x' = true) (h2 : chkOpd y y' = true) (h3 : chkOpd z z' = true)
    (hw : opW P g σ H u (.pick x' y' z') K) (hg : g) : Res P C σ H a w o K := by
  obtain ⟨c, hc, hk⟩ := ung hw hg (ev h h1)
  split at hk
  · rename_i t
    have e := avr_bool (v := .c (.bool t)) hc
    have hy := ev h h2
    have hz := ev h h3
    have hr : (execOp a.eval o).run P w = .ok (.value (if t then a.eval y else a.eval z)) w := by
      simp [execOp, ho, e, asBool, pure, Sem.run, bind, Sem.bind]
    unfold pickW at hk
    split at hk
    · rename_i p q e1 e2
      rw [e1] at hy; rw [e2] at hz
      rw [avr_bool (v := .c (.bool p)) hy, avr_bool (v := .c (.bool q)) hz] at hr
      refine Res.pure h hr hk ?_
      cases t <;> exact .c _ _ (.bool _)
    · rename_i g' p q e1 e2
      rw [e1] at hy; rw [e2] at hz
      rw [avr_bool (v := .c (.bool q)) hz] at hr
      refine Res.pure h hr hk.2 ?_
      cases t
      · exact .c _ _ (.bool _)
      · cases hy with
        | grd _ _ _ hy _ => rw [if_pos rfl, if_pos rfl]; exact hy (hk.1 hg rfl)
    · rename_i p g' q e1 e2
      rw [e1] at hy; rw [e2] at hz
      rw [avr_bool (v := .c (.bool p)) hy] at hr
      refine Res.pure h hr hk.2 ?_
      cases t
      · cases hz with
        | grd _ _ _ hz _ => simpa using hz (hk.1 hg rfl)
      · exact .c _ _ (.bool _)
    · rename_i g1 p g2 q e1 e2
      rw [e1] at hy; rw [e2] at hz
      refine Res.pure h hr hk.2.2 ?_
      cases t
      · cases hz with
        | grd _ _ _ hz _ => simpa using hz (hk.2.1 hg rfl)
      · cases hy with
        | grd _ _ _ hy _ => simpa using hy (hk.1 hg rfl)
    · first
        | (rename_i e9 n1; rw [e9] at hy)
        | (rename_i e9 n1 n2; rw [e9] at hy)
        | (rename_i e9 n1 n2 n3; rw [e9] at hy)
        | (rename_i e9 n1 n2 n3 n4; rw [e9] at hy)
      have ht := hk.1 hg
      subst ht
      exact Res.pure h hr hk.2 hy
    · first
        | (rename_i e9 n1; rw [e9] at hz)
        | (rename_i e9 n1 n2; rw [e9] at hz)
        | (rename_i e9 n1 n2 n3; rw [e9] at hz)
        | (rename_i e9 n1 n2 n3 n4; rw [e9] at hz)
      have ht := hk.1 hg
      subst ht
      exact Res.pure h hr hk.2 hz
    · first
        | (rename_i e9 n1; rw [e9] at hy)
        | (rename_i e9 n1 n2; rw [e9] at hy)
        | (rename_i e9 n1 n2 n3; rw [e9] at hy)
        | (rename_i e9 n1 n2 n3 n4; rw [e9] at hy)
      obtain ⟨ht, hg1⟩ := hk.1 hg
      subst ht
      cases hy with
      | grd _ _ _ hy _ => exact Res.pure h hr hk.2 (hy hg1)
    · first
        | (rename_i e9 n1; rw [e9] at hz)
        | (rename_i e9 n1 n2; rw [e9] at hz)
        | (rename_i e9 n1 n2 n3; rw [e9] at hz)
        | (rename_i e9 n1 n2 n3 n4; rw [e9] at hz)
      obtain ⟨ht, hg1⟩ := hk.1 hg
      subst ht
      cases hz with
      | grd _ _ _ hz _ => exact Res.pure h hr hk.2 (hz hg1)
    · exact hk.elim
  · exact hk.elim
theorem run_binI {op : BinOp} {k : IntKind} {x y : Int} {t : TypeId} {ex ey : Operand} {F : CV → Prop} (h : binI g op k x y F) (hg : g) :
    ∃ v c, (do eqGuard op t ex ey (.int k x) (.int k y); binOp op t (.int k x) (.int k y) : Sem Value).run P w = .ok v w ∧ F c ∧ VR w S c v := by
  unfold binI at h
  have hq : ∀ o, (eqGuard o t ex ey (.int k x) (.int k y)).run P w = .ok () w := fun o => by cases o <;> simp [eqGuard, pure, Sem.run, bind, Sem.bind]
  cases op <;> simp only at h <;> first
    | exact h.elim
    | (exact ⟨_, _, by simp [hq, binOp, Op.intArith, Op.intBits, Op.intCmp, pure, Sem.run, go_sem]; try rfl, h, by constructor⟩)
    | (obtain ⟨h1, h2⟩ := h; exact ⟨_, _, by simp [hq, binOp, Op.intDiv, h1 hg, pure, Sem.run, go_sem]; try rfl, h2, by constructor⟩)
theorem run_shI {op : BinOp} (hop : op = .shl ∨ op = .shr) {k k' : IntKind} {x y : Int} {t : TypeId} {ex ey : Operand} {F : CV → Prop} (h : shI g op k x y F) (hg : g) :
    ∃ v c, (do eqGuard op t ex ey (.int k x) (.int k' y); binOp op t (.int k x) (.int k' y) : Sem Value).run P w = .ok v w ∧ F c ∧ VR w S c v := by
  unfold shI at h
  rcases hop with rfl | rfl
  · obtain ⟨h1, h2⟩ := h
    have : ¬ y < 0 := by have := h1 hg; omega
    exact ⟨_, _, by simp [eqGuard, binOp, Op.shift, this, pure, Sem.run, bind, Sem.bind]; rfl, h2, by constructor⟩
  · obtain ⟨h1, h2⟩ := h
    have : ¬ y < 0 := by have := h1 hg; omega
    exact ⟨_, _, by simp [eqGuard, binOp, Op.shift, this, pure, Sem.run, bind, Sem.bind]; rfl, h2, by constructor⟩
theorem run_binS {op : BinOp} {x y : ByteArray} {t : TypeId} {ex ey : Operand} {F : CV → Prop} (h : binS op x y F) :
    ∃ v c, (do eqGuard op t ex ey (.string x) (.string y); binOp op t (.string x) (.string y) : Sem Value).run P w = .ok v w ∧ F c ∧ VR w S c v := by
  unfold binS at h
  split at h
  · exact ⟨_, _, by simp [eqGuard, binOp, Op.stringOp, pure, Sem.run, bind, Sem.bind]; rfl, h, by constructor⟩
  · exact ⟨_, _, by simp [eqGuard, binOp, Op.stringOp, pure, Sem.run, bind, Sem.bind]; rfl, h, by constructor⟩
  · exact h.elim
theorem run_binF {op : BinOp} {x y : Nat} {t : TypeId} {ex ey : Operand} {F : CV → Prop} (h : binF op x y F) :
    ∃ v c, (do eqGuard op t ex ey (.float .f64 x) (.float .f64 y); binOp op t (.float .f64 x) (.float .f64 y) : Sem Value).run P w = .ok v w ∧ F c ∧ VR w S c v := by
  unfold binF at h
  split at h
  · exact ⟨_, _, by simp [eqGuard, binOp, Op.floatCmp, pure, Sem.run, bind, Sem.bind]; rfl, h, by constructor⟩
  · exact ⟨_, _, by simp [eqGuard, binOp, Op.floatCmp, pure, Sem.run, bind, Sem.bind]; rfl, h, by constructor⟩
  · exact h.elim
theorem res_bin (h : R C ι S σ H a w) {x y : Operand} {x' y' : Opd} {op : BinOp} {t t2 : TypeId} (ho : o.op = .binOp op t x y t2) (h1 : chkOpd x x' = true) (h2 : chkOpd y y' = true)
    (hw : opW P g σ H u (.bin op x' y') K) (hg : g) : Res P C σ H a w o K := by
  obtain ⟨v1, hv1, hk⟩ := ung hw hg (ev h h1)
  obtain ⟨v2, hv2, hk⟩ := ung hk hg (ev h h2)
  have fin : ∀ {v c}, (do eqGuard op t x y (a.eval x) (a.eval y); binOp op t (a.eval x) (a.eval y) : Sem Value).run P w = .ok v w → K (.c c) [] → VR w S c v → Res P C σ H a w o K := by
    intro v c hr hK hv
    refine Res.pure h (v := v) (av := .c c) ?_ hK (.c _ _ hv)
    simp only [execOp, ho]
    exact runV hr
  split at hk
  · have e1 := avr_int hv1
    have e2 := avr_int hv2
    rw [e1, e2] at fin
    split at hk
    · obtain ⟨v, c, hr, hK, hv⟩ := run_shI (P := P) (w := w) (S := S) (t := t) (ex := x) (ey := y) (.inl rfl) hk hg
      exact fin hr hK hv
    · obtain ⟨v, c, hr, hK, hv⟩ := run_shI (P := P) (w := w) (S := S) (t := t) (ex := x) (ey := y) (.inr rfl) hk hg
      exact fin hr hK hv
    · obtain ⟨rfl, hk⟩ := hk
      obtain ⟨v, c, hr, hK, hv⟩ := run_binI (P := P) (w := w) (S := S) (t := t) (ex := x) (ey := y) hk hg
      exact fin hr hK hv
  · have e1 := avr_str hv1
    have e2 := avr_str hv2
    rw [e1, e2] at fin
    obtain ⟨v, c, hr, hK, hv⟩ := run_binS (P := P) (w := w) (S := S) (t := t) (ex := x) (ey := y) hk
    exact fin hr hK hv
  · have e1 := avr_flt hv1
    have e2 := avr_flt hv2
    rw [e1, e2] at fin
    obtain ⟨v, c, hr, hK, hv⟩ := run_binF (P := P) (w := w) (S := S) (t := t) (ex := x) (ey := y) hk
    exact fin hr hK hv
  · exact hk.elim
theorem res_not (h : R C ι S σ H a w) {x : Operand} {x' : Opd} {t : TypeId} (ho : o.op = .unOp .not t x) (h1 : chkOpd x x' = true)
    (hw : opW P g σ H u (.not x') K) (hg : g) : Res P C σ H a w o K := by
  obtain ⟨v1, hv1, hk⟩ := ung hw hg (ev h h1)
  split at hk
  · rename_i b
    have e := avr_bool (v := .c (.bool b)) hv1
    exact Res.pure h (by simp only [execOp, ho, e]; exact runV rfl) hk (.c _ _ (.bool _))
  · exact hk.elim
theorem res_cpl (h : R C ι S σ H a w) {x : Operand} {x' : Opd} {t : TypeId} (ho : o.op = .unOp .xor t x) (h1 : chkOpd x x' = true)
    (hw : opW P g σ H u (.cpl x') K) (hg : g) : Res P C σ H a w o K := by
  obtain ⟨v1, hv1, hk⟩ := ung hw hg (ev h h1)
  split at hk
  · rename_i k n
    have e := avr_int (k := k) (n := n) hv1
    exact Res.pure h (by simp only [execOp, ho, e]; exact runV rfl) hk (.c _ _ (.int _ _))
  · exact hk.elim
theorem res_conv (h : R C ι S σ H a w) {x : Operand} {x' : Opd} {k : IntKind} {s d : TypeId} (ho : o.op = .convert s d x) (h1 : chkOpd x x' = true)
    (hs : (P.underlying s).isSome = true) (hd : isInt P d k = true)
    (hw : opW P g σ H u (.conv k x') K) (hg : g) : Res P C σ H a w o K := by
  obtain ⟨v1, hv1, hk⟩ := ung hw hg (ev h h1)
  obtain ⟨sd, hs⟩ := Option.isSome_iff_exists.1 hs
  unfold isInt at hd
  split at hd
  · rename_i k' hd'
    have hkk : k = k' := by simpa using hd
    subst hkk
    split at hk
    · rename_i k0 n
      have e := avr_int (k := k0) (n := n) hv1
      exact Res.pure h (by simp only [execOp, ho, e]; exact runV (by simp [convert, run_underlying hs, run_underlying hd', Conv.intToInt, pure, Sem.run])) hk (.c _ _ (.int _ _))
    · exact hk.elim
  · cases hd
theorem avr_c {v : CV} {u : Value} (hv : AVR ι H S w (.c v) u) : VR w S v u := by
  cases hv; assumption
theorem vr_sl {e : Nat} {xs : List CV} {u : Value} (hv : VR w S (.sl e xs) u) : ∃ p c, u = .slice p xs.length c := by
  cases hv with
  | slnil => exact ⟨_, _, rfl⟩
  | sl => exact ⟨_, _, rfl⟩
theorem vr_agg {cs : List CV} {u : Value} (hv : VR w S (.agg cs) u) : ∃ us : Array Value, u = .agg us ∧ us.size = cs.length ∧
    ∀ i, i < cs.length → VR w S (cs.getD i .undef) (us.getD i Go.undef) := by
  cases hv with
  | agg _ us h1 h2 => exact ⟨us, rfl, h1, h2⟩
theorem avr_osl {i off len : Nat} {u : Value} (hv : AVR ι H S w (.osl i off len) u) : OslOK ι H i off len u := by
  cases hv; assumption
theorem avr_ref {i off : Nat} {u : Value} (hv : AVR ι H S w (.ref i off) u) : RefOK ι H i off u := by
  cases hv; assumption
theorem avr_eptr {i j f : Nat} {u : Value} (hv : AVR ι H S w (.eptr i j f) u) : EptrOK ι H i j f u := by
  cases hv; assumption
theorem avr_vptr {cs : List CV} {u : Value} (hv : AVR ι H S w (.vptr cs) u) : ∃ b o, u = .pointer (some ⟨b, o, none⟩) ∧
    ∀ j, j < cs.length → ∃ x, S b (o + j) ∧ w.cell? ⟨b, o + j, none⟩ = some x ∧ VR w S (cs.getD j .undef) x := by
  cases hv with
  | vptr _ b o h => exact ⟨b, o, rfl, h⟩
theorem avr_tup {l : List AV} {u : Value} (hv : AVR ι H S w (.tup l) u) : ∃ us : Array Value, u = .tuple us ∧ us.size = l.length ∧
    ∀ i, i < l.length → AVR ι H S w (l.getD i (.c .undef)) (us.getD i Go.undef) := by
  cases hv with
  | tup _ us h1 h2 => exact ⟨us, rfl, h1, h2⟩
theorem sliceLen {L : Loc} {e off len : Nat} {u : Value} (h : SliceAt L e off len u) : ∃ a c, u = .slice a len c := by
  unfold SliceAt at h
  split at h
  · obtain ⟨_, rfl, p, rfl⟩ := h; exact ⟨_, _, rfl⟩
  · rcases h with h | ⟨rfl, p, rfl⟩
    · exact ⟨_, _, h⟩
    · exact ⟨_, _, rfl⟩
theorem res_len (h : R C ι S σ H a w) {x : Operand} {x' : Opd} {t : TypeId} {b : Bool} (ho : o.op = .call { callee := .builtin .len, args := #[x], argTypes := #[t] }) (h1 : chkOpd x x' = true)
    (ht : (if b then isStr P t else uSlice P t fun _ => true) = true)
    (hw : opW P g σ H u (.len b x') K) (hg : g) : Res P C σ H a w o K := by
  obtain ⟨v1, hv1, hk⟩ := ung hw hg (ev h h1)
  have fin : ∀ (n : Nat), (if b = true then ∃ s : ByteArray, a.eval x = .string s ∧ s.size = n else ∃ p c, a.eval x = .slice p n c) → K (.c (.int .i64 n)) [] → Res P C σ H a w o K := by
    intro n he hK
    refine Res.pure h ?_ hK (.c _ _ (.int _ _))
    cases b
    · simp only [Bool.false_eq_true, if_false] at he ht
      obtain ⟨p, c, he⟩ := he
      unfold uSlice at ht
      split at ht
      · rename_i e hu
        simp [execOp, ho, resolve, invoke, builtin, Builtin.len_, he, run_underlying hu, goInt, pure, Sem.run, Sem.run_bind]
      · cases ht
    · simp only [if_true] at he ht
      obtain ⟨s, he, hs⟩ := he
      unfold isStr at ht
      split at ht
      · rename_i hu
        simp [execOp, ho, resolve, invoke, builtin, Builtin.len_, he, run_underlying hu, goInt, pure, Sem.run, Sem.run_bind, hs]
      · cases ht
  split at hk
  · rename_i s
    exact fin _ (by rw [if_pos rfl]; exact ⟨s, avr_str hv1, rfl⟩) hk
  · exact fin _ (by rw [if_neg (by simp)]; exact ⟨_, _, avr_nilsl hv1⟩) hk
  · rename_i e xs
    refine fin _ ?_ hk
    rw [if_neg (by simp)]
    exact vr_sl (avr_c hv1)
  · rename_i i off len
    have hO := avr_osl hv1
    unfold OslOK at hO
    split at hk
    · rename_i e xs hget
      rw [hget] at hO
      exact fin _ (by rw [if_neg (by simp)]; exact sliceLen hO.2) hk
    · rename_i e xs hget
      rw [hget] at hO
      exact fin _ (by rw [if_neg (by simp)]; exact sliceLen hO.2) hk
    · exact hk.elim
  · exact hk.elim
theorem res_mn (h : R C ι S σ H a w) {x y : Operand} {x' y' : Opd} {t1 t2 : TypeId} (ho : o.op = .call { callee := .builtin .min, args := #[x, y], argTypes := #[t1, t2] })
    (h1 : chkOpd x x' = true) (h2 : chkOpd y y' = true)
    (hw : opW P g σ H u (.mn x' y') K) (hg : g) : Res P C σ H a w o K := by
  obtain ⟨v1, hv1, hk⟩ := ung hw hg (ev h h1)
  obtain ⟨v2, hv2, hk⟩ := ung hk hg (ev h h2)
  split at hk
  · obtain ⟨rfl, hk⟩ := hk
    have e1 := avr_int hv1
    have e2 := avr_int hv2
    refine Res.pure h ?_ hk (.c _ _ (.int _ _))
    simp [execOp, ho, resolve, invoke, builtin, Builtin.min_, Builtin.min2, e1, e2, pure, Sem.run]
  · exact hk.elim
theorem res_mx (h : R C ι S σ H a w) {x y : Operand} {x' y' : Opd} {t1 t2 : TypeId} (ho : o.op = .call { callee := .builtin .max, args := #[x, y], argTypes := #[t1, t2] })
    (h1 : chkOpd x x' = true) (h2 : chkOpd y y' = true)
    (hw : opW P g σ H u (.mx x' y') K) (hg : g) : Res P C σ H a w o K := by
  obtain ⟨v1, hv1, hk⟩ := ung hw hg (ev h h1)
  obtain ⟨v2, hv2, hk⟩ := ung hk hg (ev h h2)
  split at hk
  · obtain ⟨rfl, hk⟩ := hk
    have e1 := avr_int hv1
    have e2 := avr_int hv2
    refine Res.pure h ?_ hk (.c _ _ (.int _ _))
    simp [execOp, ho, resolve, invoke, builtin, Builtin.max_, Builtin.max2, e1, e2, pure, Sem.run]
  · exact hk.elim
theorem res_ext (h : R C ι S σ H a w) {x : Operand} {x' : Opd} {i : Nat} (ho : o.op = .extract x i) (h1 : chkOpd x x' = true)
    (hw : opW P g σ H u (.ext x' i) K) (hg : g) : Res P C σ H a w o K := by
  obtain ⟨v1, hv1, hk⟩ := ung hw hg (ev h h1)
  split at hk
  · obtain ⟨hi, hk⟩ := hk
    obtain ⟨us, e, hl, hu⟩ := avr_tup hv1
    refine Res.pure h ?_ hk (hu i hi)
    have hi' : i < us.size := by omega
    simp [execOp, ho, e, Instr.extract, hi', pure, Sem.run]
  · exact hk.elim
theorem run_sidx {t : TypeId} (hu : P.underlying t = some .string) (s : ByteArray) (k : IntKind) (n : Int) (h0 : 0 ≤ n) (hlt : n < s.size) :
    (Instr.index t (.string s) (.int k n)).run P w = .ok (.int .u8 (s.data.toList.getD n.toNat 0).toNat) w := by
  have hm : n.toNat < s.size := by omega
  simp [Instr.index, run_underlying hu, asIntOf, h0, pure, Sem.run, hm]
  rfl
theorem res_sidx (h : R C ι S σ H a w) {x i : Operand} {x' i' : Opd} {t : TypeId} (ho : o.op = .index t x i) (h1 : chkOpd x x' = true) (h2 : chkOpd i i' = true)
    (ht : isStr P t = true) (hw : opW P g σ H u (.sidx x' i') K) (hg : g) : Res P C σ H a w o K := by
  obtain ⟨v1, hv1, hk⟩ := ung hw hg (ev h h1)
  obtain ⟨v2, hv2, hk⟩ := ung hk hg (ev h h2)
  unfold isStr at ht
  split at ht
  · rename_i hu
    split at hk
    · obtain ⟨hb, hk⟩ := hk
      have hb := hb hg
      have e1 := avr_str hv1
      have e2 := avr_int hv2
      refine Res.pure h ?_ hk (.c _ _ (.int _ _))
      simp only [execOp, ho, e1, e2]
      exact runV (run_sidx hu _ _ _ hb.1 hb.2)
    · exact hk.elim
  · cases ht
theorem run_aidx {t e : TypeId} {n : Nat} (hu : P.underlying t = some (.array n e)) (he : uAgg P e = some false) (hsz : szOf P e = some 1) (us : Array Value) (hus : us.size = n) (k : IntKind) (i : Int) (h0 : 0 ≤ i) (hlt : i < n) :
    (Instr.index t (.agg us) (.int k i)).run P w = .ok (us.getD i.toNat Go.undef) w := by
  have hm : i.toNat < us.size := by omega
  unfold szOf at hsz
  obtain ⟨inf, hinf, hs1⟩ := Option.map_eq_some_iff.1 hsz
  have hag : (isAgg e).run P w = .ok false w := by
    unfold uAgg at he
    split at he <;> first | (cases he; done) | skip
    rename_i d hd1 hd2 hd
    simp [isAgg, run_underlying hd, pure, Sem.run]
  simp [Instr.index, run_underlying hu, asIntOf, h0, hlt, pure, Sem.run, sizeOf, typeInfo, hinf, hs1, part, hag, hm]
theorem res_aidx (h : R C ι S σ H a w) {x i : Operand} {x' i' : Opd} {t e : TypeId} {n : Nat} (ho : o.op = .index t x i) (h1 : chkOpd x x' = true) (h2 : chkOpd i i' = true)
    (hu : P.underlying t = some (.array n e)) (he : uAgg P e = some false) (hsz : szOf P e = some 1) (hw : opW P g σ H u (.aidx n x' i') K) (hg : g) : Res P C σ H a w o K := by
  obtain ⟨v1, hv1, hk⟩ := ung hw hg (ev h h1)
  obtain ⟨v2, hv2, hk⟩ := ung hk hg (ev h h2)
  split at hk
  · obtain ⟨hn, hb, hk⟩ := hk
    have hb := hb hg
    have e2 := avr_int hv2
    obtain ⟨us, e1, hl, hu'⟩ := vr_agg (avr_c hv1)
    refine Res.pure h ?_ hk (.c _ _ (hu' _ (by omega)))
    simp only [execOp, ho, e1, e2]
    exact runV (run_aidx hu he hsz us (by omega) _ _ hb.1 hb.2)
  · exact hk.elim
end
theorem addr_add (b o n : Nat) : (⟨b, o, none⟩ : Addr).add n = ⟨b, o + n, none⟩ := by unfold Addr.add; split <;> simp_all
section
variable {P : Program} {C : Ctx} {ι : Nat → Loc} {S : Nat → Nat → Prop} {σ : Slots} {H : LH} {a : Act} {w : World} {o : Oper} {K : AV → List (Nat × LObj) → Prop} {g : Prop} {u : Nat}
def uField (P : Program) (s : TypeId) (f off : Nat) : Bool :=
  match P.underlying s with
  | some (.struct fs) =>
    match fs[f]? with
    | some fd => fd.offset == off && (match szOf P fd.type with | some n => n != 0 | none => false)
    | none => false
  | _ => false
theorem run_fieldAt {s : TypeId} {f off : Nat} (h : uField P s f off = true) (b p : Nat) :
    (Instr.fieldAt s (.pointer (some ⟨b, p, none⟩)) f).run P w = .ok (.pointer (some ⟨b, p + off, none⟩)) w := by
  unfold uField at h
  split at h
  · rename_i fs hu
    split at h
    · rename_i fd hf
      simp only [Bool.and_eq_true, beq_iff_eq] at h
      obtain ⟨rfl, h⟩ := h
      split at h
      · rename_i n hn
        unfold szOf at hn
        obtain ⟨inf, hinf, hs1⟩ := Option.map_eq_some_iff.1 hn
        have hne : inf.size ≠ 0 := by rw [hs1]; simpa using h
        simp [Instr.fieldAt, run_underlying hu, hf, Instr.sureAddr, fieldPlace, sizeOf, typeInfo, hinf, hne, addr_add, pure, Sem.run]
      · cases h
    · cases h
  · cases h
theorem refOK_obj {i off : Nat} {cs : List AV} {x : Value} (h : RefOK ι H i off x) (hg : LH.get H i = some (.obj cs)) :
    off ≤ cs.length ∧ x = .pointer (some ⟨(ι i).block, (ι i).off + off, none⟩) := by
  unfold RefOK at h; rw [hg] at h; exact h
theorem eptrOK_row {i j f e : Nat} {xs : List CV} {x : Value} (h : EptrOK ι H i j f x) (hg : LH.get H i = some (.row e xs) ∨ LH.get H i = some (.vrow e xs)) :
    j < xs.length ∧ EptrAt (ι i) e j f x := by
  unfold EptrOK at h
  rcases hg with hg | hg <;> (rw [hg] at h; exact h)
theorem oslOK_row {i off len e : Nat} {xs : List CV} {x : Value} (h : OslOK ι H i off len x) (hg : LH.get H i = some (.row e xs) ∨ LH.get H i = some (.vrow e xs)) :
    off + len ≤ xs.length ∧ SliceAt (ι i) e off len x := by
  unfold OslOK at h
  rcases hg with hg | hg <;> (rw [hg] at h; exact h)
theorem res_fa (h : R C ι S σ H a w) {x : Operand} {x' : Opd} {s : TypeId} {f off : Nat} (ho : o.op = .fieldAddr s x f) (h1 : chkOpd x x' = true) (hf : uField P s f off = true)
    (hw : opW P g σ H u (.fa x' off) K) (hg : g) : Res P C σ H a w o K := by
  obtain ⟨v1, hv1, hk⟩ := ung hw hg (ev h h1)
  split at hk
  · rename_i i p
    split at hk
    · rename_i cs hget
      obtain ⟨hb, hk⟩ := hk
      obtain ⟨hle, e⟩ := refOK_obj (avr_ref hv1) hget
      refine Res.pure h (v := .pointer (some ⟨(ι i).block, (ι i).off + (p + off), none⟩)) ?_ hk (.ref _ _ _ ?_)
      · simp only [execOp, ho, e]
        rw [← Nat.add_assoc]
        exact runV (run_fieldAt hf _ _)
      · unfold RefOK; rw [hget]; exact ⟨hb, rfl⟩
    · exact hk.elim
  · rename_i i j p
    have hE := avr_eptr hv1
    have key : ∀ (e : Nat) (xs : List CV), (LH.get H i = some (.row e xs) ∨ LH.get H i = some (.vrow e xs)) → K (.eptr i j (p + off)) [] → Res P C σ H a w o K := by
      intro e xs hget hk
      obtain ⟨hlt, hn, e1⟩ := eptrOK_row hE hget
      refine Res.pure h (v := .pointer (some ⟨(ι i).block, (ι i).off + (j * e + (p + off)), none⟩)) ?_ hk (.eptr _ _ _ _ ?_)
      · simp only [execOp, ho, e1]
        have : (ι i).off + (j * e + (p + off)) = (ι i).off + (j * e + p) + off := by omega
        rw [this]
        exact runV (run_fieldAt hf _ _)
      · unfold EptrOK
        rcases hget with hget | hget <;> (rw [hget]; exact ⟨hlt, hn, rfl⟩)
    split at hk
    · rename_i hget; exact key _ _ (.inl hget) hk
    · rename_i hget; exact key _ _ (.inr hget) hk
    · exact hk.elim
  · rename_i cs
    obtain ⟨b, p, e, hc⟩ := avr_vptr hv1
    refine Res.pure h ?_ hk (.vptr _ b (p + off) fun j hj => ?_)
    · simp only [execOp, ho, e]
      exact runV (run_fieldAt hf _ _)
    · have hj' : off + j < cs.length := by simp at hj; omega
      obtain ⟨x, hx⟩ := hc _ hj'
      refine ⟨x, by rw [Nat.add_assoc]; exact hx.1, by rw [Nat.add_assoc]; exact hx.2.1, ?_⟩
      have : (cs.drop off).getD j .undef = cs.getD (off + j) .undef := by simp [List.getD_eq_getElem?_getD, List.getElem?_drop]
      rw [this]; exact hx.2.2
  · exact hk.elim
theorem run_indexAt {t e : TypeId} {sz : Nat} (hu : P.underlying t = some (.slice e)) (hs : szOf P e = some sz) (b p len cap : Nat) (k : IntKind) (i : Int) (h0 : 0 ≤ i) (h1 : i < len) :
    (Instr.indexAt t (.slice (some ⟨b, p, none⟩) len cap) (.int k i)).run P w = .ok (.pointer (some ⟨b, p + i.toNat * sz, none⟩)) w := by
  unfold szOf at hs
  obtain ⟨inf, hinf, hs1⟩ := Option.map_eq_some_iff.1 hs
  simp [Instr.indexAt, run_underlying hu, asIntOf, h0, h1, sizeOf, typeInfo, hinf, hs1, addr_add, pure, Sem.run]
theorem sliceAt_pos {L : Loc} {e off len : Nat} {x : Value} (h : SliceAt L e off len x) (hp : 0 < len) :
    L.isnil = false ∧ x = .slice (some ⟨L.block, L.off + off * e, none⟩) len (L.cap - off) := by
  unfold SliceAt at h
  split at h
  · obtain ⟨_, h, _⟩ := h; omega
  · rename_i hl
    rcases h with h | ⟨h, _⟩
    · exact ⟨by simpa using hl, h⟩
    · omega
theorem vr_sl_pos {e : Nat} {xs : List CV} {x : Value} (h : VR w S (.sl e xs) x) (hp : 0 < xs.length) :
    ∃ b p cap, x = .slice (some ⟨b, p, none⟩) xs.length cap ∧ xs.length ≤ cap ∧ (∀ x ∈ xs, x.wf e) ∧
      ∀ i j, i < xs.length → j < e → ∃ u, S b (p + (i * e + j)) ∧ w.cell? ⟨b, p + (i * e + j), none⟩ = some u ∧ VR w S ((xs.getD i .undef).cells.getD j .undef) u := by
  cases h with
  | slnil => simp at hp
  | sl _ _ b p cap us h1 h2 h3 h4 => exact ⟨b, p, cap, rfl, h1, h2, fun i j hi hj => ⟨_, (h3 i j hi hj).1, (h3 i j hi hj).2, h4 i j hi hj⟩⟩
theorem getD_mem {xs : List CV} {i : Nat} (h : i < xs.length) : xs.getD i .undef ∈ xs := by
  rw [List.getD_eq_getElem?_getD, List.getElem?_eq_getElem h]
  exact List.getElem_mem h
theorem res_ia (h : R C ι S σ H a w) {x i : Operand} {x' i' : Opd} {t e : TypeId} {sz : Nat} (ho : o.op = .indexAddr t x i) (h1 : chkOpd x x' = true) (h2 : chkOpd i i' = true)
    (hu : P.underlying t = some (.slice e)) (hs : szOf P e = some sz) (hw : opW P g σ H u (.ia x' i' sz) K) (hg : g) : Res P C σ H a w o K := by
  obtain ⟨v1, hv1, hk0⟩ := ung hw hg (ev h h1)
  obtain ⟨v2, hv2, hk⟩ := ung hk0 hg (ev h h2)
  clear hk0 hw
  split at hk
  · rename_i id off len k n
    have e2 := avr_int hv2
    have hO := avr_osl hv1
    have key : ∀ (e' : Nat) (xs : List CV), (LH.get H id = some (.row e' xs) ∨ LH.get H id = some (.vrow e' xs)) → (e' = sz ∧ (g → 0 ≤ n ∧ n < len) ∧ K (.eptr id (off + n.toNat) 0) []) → Res P C σ H a w o K := by
      rintro e' xs hget ⟨rfl, hb, hk⟩
      have hb := hb hg
      obtain ⟨hle, hsl⟩ := oslOK_row hO hget
      obtain ⟨hn, e1⟩ := sliceAt_pos hsl (by omega)
      refine Res.pure h (v := .pointer (some ⟨(ι id).block, (ι id).off + ((off + n.toNat) * e' + 0), none⟩)) ?_ hk (.eptr _ _ _ _ ?_)
      · simp only [execOp, ho, e1, e2]
        have : (ι id).off + ((off + n.toNat) * e' + 0) = (ι id).off + off * e' + n.toNat * e' := by rw [Nat.add_mul]; omega
        rw [this]
        exact runV (run_indexAt hu hs _ _ _ _ _ _ hb.1 hb.2)
      · unfold EptrOK
        rcases hget with hget | hget <;> (rw [hget]; exact ⟨by omega, hn, rfl⟩)
    split at hk
    · rename_i hget; exact key _ _ (.inl hget) hk
    · rename_i hget; exact key _ _ (.inr hget) hk
    · exact hk.elim
  · rename_i e' xs k n
    obtain ⟨rfl, hb, hk⟩ := hk
    have hb := hb hg
    have e2 := avr_int hv2
    obtain ⟨b, p, cap, e1, hcap, hwf, hc⟩ := vr_sl_pos (avr_c hv1) (by omega)
    refine Res.pure h (v := .pointer (some ⟨b, p + n.toNat * e', none⟩)) ?_ hk (.vptr _ _ _ fun j hj => ?_)
    · simp only [execOp, ho, e1, e2]
      exact runV (run_indexAt hu hs _ _ _ _ _ _ hb.1 hb.2)
    · have hlt : n.toNat < xs.length := by omega
      have hj' : j < e' := by rw [← (hwf _ (getD_mem hlt)).1]; exact hj
      obtain ⟨x, hx⟩ := hc n.toNat j hlt hj'
      exact ⟨x, by rw [Nat.add_assoc]; exact hx.1, by rw [Nat.add_assoc]; exact hx.2.1, hx.2.2⟩
  · exact hk.elim
theorem uAgg_run {t : TypeId} {b : Bool} (h : uAgg P t = some b) : (isAgg t).run P w = .ok b w := by
  unfold uAgg at h
  split at h <;> first | (cases h; done) | skip
  · rename_i d hd; cases h; simp [isAgg, run_underlying hd, pure, Sem.run]
  · rename_i d _ hd; cases h; simp [isAgg, run_underlying hd, pure, Sem.run]
  · rename_i d hd1 hd2 hd
    cases h
    simp [isAgg, run_underlying hd, pure, Sem.run]
theorem run_loadOne {t : TypeId} (h : uAgg P t = some false) {b p : Nat} {x : Value} (hc : w.cell? ⟨b, p, none⟩ = some x) :
    (Instr.loadAt t (.pointer (some ⟨b, p, none⟩))).run P w = .ok x w := by
  simp [Instr.loadAt, Instr.sureAddr, loadVar, uAgg_run h, load, pure, Sem.run, hc]
theorem run_loadMany {t : TypeId} {n : Nat} (h : uAgg P t = some true) (hs : szOf P t = some n) {b p : Nat} (xs : List Value) (hl : xs.length = n)
    (hc : ∀ j, j < n → w.cell? ⟨b, p + j, none⟩ = some (xs.getD j Go.undef)) :
    (Instr.loadAt t (.pointer (some ⟨b, p, none⟩))).run P w = .ok (.agg xs.toArray) w := by
  unfold szOf at hs
  obtain ⟨inf, hinf, hs1⟩ := Option.map_eq_some_iff.1 hs
  have hl' := run_loadCells_list (P := P) w ⟨b, p, none⟩ xs (fun j v hv => by
    have hj : j < xs.length := (List.getElem?_eq_some_iff.1 hv).1
    rw [addr_add, hc j (by omega), List.getD_eq_getElem?_getD, hv]; rfl)
  rw [hl] at hl'
  simp [Instr.loadAt, Instr.sureAddr, loadVar, uAgg_run h, sizeOf, typeInfo, hinf, hs1, hl', pure, Sem.run]
theorem exists_list {n : Nat} {Q : Nat → Value → Prop} (h : ∀ j, j < n → ∃ x, Q j x) : ∃ xs : List Value, xs.length = n ∧ ∀ j, j < n → Q j (xs.getD j Go.undef) := by
  induction n with
  | zero => exact ⟨[], rfl, fun j hj => by omega⟩
  | succ n ih =>
    obtain ⟨xs, hl, hx⟩ := ih (fun j hj => h j (by omega))
    obtain ⟨x, hq⟩ := h n (by omega)
    refine ⟨xs ++ [x], by simp [hl], fun j hj => ?_⟩
    by_cases e : j = n
    · subst e
      rw [List.getD_eq_getElem?_getD, List.getElem?_append_right (by omega)]
      simp [hl]; exact hq
    · have := hx j (by omega)
      rw [List.getD_eq_getElem?_getD, List.getElem?_append_left (by omega), ← List.getD_eq_getElem?_getD]; exact this
theorem closedW_spec {l : List AV} {F : List CV → Prop} (h : closedW l F) : ∃ vs, l = vs.map .c ∧ F vs := by
  induction l generalizing F with
  | nil => exact ⟨[], rfl, h⟩
  | cons x l ih =>
    cases x with
    | c v =>
      obtain ⟨vs, rfl, hF⟩ := ih h
      exact ⟨v :: vs, rfl, hF⟩
    | _ => exact h.elim
theorem getD_map_c (vs : List CV) (j : Nat) : (vs.map AV.c).getD j (.c .undef) = .c (vs.getD j .undef) := by
  simp only [List.getD_eq_getElem?_getD, List.getElem?_map]
  cases vs[j]? <;> rfl
theorem getD_drop_take {α : Type} (l : List α) (d : α) {o n j : Nat} (h : j < n) : ((l.drop o).take n).getD j d = l.getD (o + j) d := by
  simp only [List.getD_eq_getElem?_getD, List.getElem?_take, h, if_true, List.getElem?_drop]
theorem agg_mk {vs : List CV} {xs : List Value} (hl : xs.length = vs.length) (hv : ∀ j, j < vs.length → VR w S (vs.getD j .undef) (xs.getD j Go.undef)) :
    VR w S (.agg vs) (.agg xs.toArray) :=
  .agg vs xs.toArray (by simp [hl]) (fun i hi => by simpa [List.getD_eq_getElem?_getD, Array.getD_eq_getD_getElem?] using hv i hi)
def chkLoad (P : Program) (t : TypeId) (n : Option Nat) : Bool :=
  match n with
  | none => uAgg P t == some false
  | some n => uAgg P t == some true && szOf P t == some n
theorem load_sound (h : R C ι S σ H a w) {v : AV} {xv : Value} {t : TypeId} {n : Option Nat} {F : AV → Prop} (hv : AVR ι H S w v xv) (ht : chkLoad P t n = true)
    (hw : loadW g H v n F) (hg : g) : ∃ av y, F av ∧ AVR ι H S w av y ∧ (Instr.loadAt t xv).run P w = .ok y w := by
  obtain ⟨v1, hv1, hk⟩ := ung hw hg hv
  split at hk
  · rename_i i off
    split at hk
    · rename_i cs hget
      obtain ⟨hle, e⟩ := refOK_obj (avr_ref hv1) hget
      have hobj := h.hr.obj _ _ hget
      cases n with
      | none =>
        obtain ⟨hlt, hk⟩ := hk
        obtain ⟨x, hc, _, hv⟩ := hobj off hlt
        exact ⟨_, _, hk, hv, by rw [e]; exact run_loadOne (by simpa [chkLoad] using ht) hc⟩
      | some n =>
        obtain ⟨hlt, hk⟩ := hk
        obtain ⟨vs, he, hk⟩ := closedW_spec hk
        have hvl : vs.length = n := by
          have := congrArg List.length he
          simp at this; omega
        have ht' : uAgg P t = some true ∧ szOf P t = some n := by simpa [chkLoad] using ht
        obtain ⟨xs, hxl, hxs⟩ := exists_list (n := n) (Q := fun j x => w.cell? ⟨(ι i).block, (ι i).off + off + j, none⟩ = some x ∧ VR w S (vs.getD j .undef) x) (fun j hj => by
          obtain ⟨x, hc, _, hv⟩ := hobj (off + j) (by omega)
          refine ⟨x, by rw [Nat.add_assoc]; exact hc, ?_⟩
          have e2 : cs.getD (off + j) (.c .undef) = .c (vs.getD j .undef) := by
            rw [← getD_drop_take cs (.c .undef) (n := n) hj, he, getD_map_c]
          rw [e2] at hv
          exact avr_c hv)
        exact ⟨_, _, hk, (.c _ _ (agg_mk (by omega) (fun j hj => (hxs j (by omega)).2))), by rw [e]; exact run_loadMany ht'.1 ht'.2 xs hxl (fun j hj => (hxs j hj).1)⟩
    · exact hk.elim
  · rename_i i j f
    have hE := avr_eptr hv1
    have key : ∀ (e : Nat) (xs : List CV) , (LH.get H i = some (.row e xs) ∨ LH.get H i = some (.vrow e xs)) → 
        ldRow g e (xs.getD j .undef) f n F → ∃ av y, F av ∧ AVR ι H S w av y ∧ (Instr.loadAt t xv).run P w = .ok y w := by
      intro e xs hget hk
      obtain ⟨hlt, hn, e1⟩ := eptrOK_row hE hget
      have hcell : (∀ q, q < e → ∃ x, w.cell? ⟨(ι i).block, (ι i).off + (j * e + q), none⟩ = some x ∧ VR w S ((xs.getD j .undef).cells.getD q .undef) x) ∧ (xs.getD j .undef).wf e := by
        rcases hget with hget | hget
        · have hr := h.hr.row _ _ _ hget
          unfold RowR at hr
          rw [if_neg (by simp [hn])] at hr
          exact ⟨fun q hq => hr.2.2.2 j q hlt hq, hr.2.1 _ (getD_mem hlt)⟩
        · have hr := h.hr.vrow _ _ _ hget
          unfold VRowR at hr
          rw [if_neg (by simp [hn])] at hr
          generalize hz : Value.slice (some ⟨(ι i).block, (ι i).off, none⟩) xs.length (ι i).cap = z at hr
          obtain ⟨b, p, cap, e2, _, hwf, hc⟩ := vr_sl_pos hr (by omega)
          rw [e2] at hz
          injection hz with hz1 hz2 hz3
          injection hz1 with hz1
          injection hz1 with hb hp _
          subst hb; subst hp
          exact ⟨fun q hq => let ⟨x, hx⟩ := hc j q hlt hq; ⟨x, hx.2⟩, hwf _ (getD_mem hlt)⟩
      obtain ⟨hcell, hwf⟩ := hcell
      cases n with
      | none =>
        obtain ⟨hf, hk⟩ := hk
        obtain ⟨x, hc, hv⟩ := hcell f (hf hg)
        exact ⟨_, _, hk, (.c _ _ hv), by rw [e1]; exact run_loadOne (by simpa [chkLoad] using ht) hc⟩
      | some n =>
        obtain ⟨hf, hk⟩ := hk
        have hf := hf hg
        have ht' : uAgg P t = some true ∧ szOf P t = some n := by simpa [chkLoad] using ht
        obtain ⟨ys, hxl, hxs⟩ := exists_list (n := n) (Q := fun q x => w.cell? ⟨(ι i).block, (ι i).off + (j * e + f) + q, none⟩ = some x ∧ VR w S ((((xs.getD j .undef).cells.drop f).take n).getD q .undef) x) (fun q hq => by
          obtain ⟨x, hc, hv⟩ := hcell (f + q) (by omega)
          refine ⟨x, by rw [← hc]; congr 2; omega, ?_⟩
          rw [getD_drop_take _ _ hq]; exact hv)
        exact ⟨_, _, hk, (.c _ _ (agg_mk (by have := hwf.1; simp only [List.length_take, List.length_drop]; omega) (fun q hq => (hxs q (by simp only [List.length_take] at hq; omega)).2))), by rw [e1]; exact run_loadMany ht'.1 ht'.2 ys hxl (fun q hq => (hxs q hq).1)⟩
    split at hk
    · rename_i hget; exact key _ _ (.inl hget) hk
    · rename_i hget; exact key _ _ (.inr hget) hk
    · exact hk.elim
  · rename_i cs
    obtain ⟨b, p, e, hc⟩ := avr_vptr hv1
    cases n with
    | none =>
      obtain ⟨hf, hk⟩ := hk
      obtain ⟨x, _, hx, hv⟩ := hc 0 (hf hg)
      exact ⟨_, _, hk, (.c _ _ hv), by rw [e]; exact run_loadOne (by simpa [chkLoad] using ht) hx⟩
    | some n =>
      obtain ⟨hf, hk⟩ := hk
      have hf := hf hg
      have ht' : uAgg P t = some true ∧ szOf P t = some n := by simpa [chkLoad] using ht
      obtain ⟨ys, hxl, hxs⟩ := exists_list (n := n) (Q := fun q x => w.cell? ⟨b, p + q, none⟩ = some x ∧ VR w S ((cs.take n).getD q .undef) x) (fun q hq => by
        obtain ⟨x, _, hc, hv⟩ := hc q (by omega)
        refine ⟨x, hc, ?_⟩
        have : (cs.take n).getD q .undef = cs.getD q .undef := by simp [List.getD_eq_getElem?_getD, List.getElem?_take, hq]
        rw [this]; exact hv)
      exact ⟨_, _, hk, (.c _ _ (agg_mk (by simp; omega) (fun q hq => (hxs q (by simp at hq; omega)).2))), by rw [e]; exact run_loadMany ht'.1 ht'.2 ys hxl (fun q hq => (hxs q hq).1)⟩
  · exact hk.elim
theorem res_ld (h : R C ι S σ H a w) {x : Operand} {x' : Opd} {t : TypeId} {n : Option Nat} (ho : o.op = .load t x) (h1 : chkOpd x x' = true) (ht : chkLoad P t n = true)
    (hw : opW P g σ H u (.ld x' n) K) (hg : g) : Res P C σ H a w o K := by
  simp only [opW] at hw
  obtain ⟨av, y, hk, hv, hr⟩ := load_sound (P := P) h (ev h h1) ht hw hg
  exact Res.pure h (by simp only [execOp, ho]; exact runV hr) hk hv
end
section
variable {P : Program} {C : Ctx} {ι : Nat → Loc} {S : Nat → Nat → Prop} {σ : Slots} {H : LH} {a : Act} {w : World} {o : Oper} {K : AV → List (Nat × LObj) → Prop} {g : Prop} {u : Nat}
theorem res_nck (h : R C ι S σ H a w) {x : Operand} {x' : Opd} (ho : o.op = .nilCheck x) (h1 : chkOpd x x' = true)
    (hw : opW P g σ H u (.nck x') K) (hg : g) : Res P C σ H a w o K := by
  obtain ⟨v1, hv1, hk⟩ := ung hw hg (ev h h1)
  have fin : ∀ {ad : Addr}, a.eval x = .pointer (some ad) → K v1 [] → Res P C σ H a w o K := fun e hK =>
    Res.pure h (by simp only [execOp, ho, e]; rfl) hK (e ▸ hv1)
  split at hk
  · rename_i i p
    split at hk
    · rename_i cs hget
      exact fin (refOK_obj (avr_ref hv1) hget).2 hk
    · exact hk.elim
  · obtain ⟨b, p, e, _⟩ := avr_vptr hv1
    exact fin e hk
  · rename_i i j f
    split at hk
    · rename_i hget; exact fin (eptrOK_row (avr_eptr hv1) (.inl hget)).2.2 hk
    · rename_i hget; exact fin (eptrOK_row (avr_eptr hv1) (.inr hget)).2.2 hk
    · exact hk.elim
  · exact hk.elim
theorem run_isnil {t : TypeId} (hu : uSlice P t (fun _ => true) = true) (op : BinOp) (hop : op = .eql ∨ op = .neq) (ex ey : Operand) (p : Option Addr) (l c : Nat) :
    (do eqGuard op t ex ey (.slice p l c) (.slice none 0 0); binOp op t (.slice p l c) (.slice none 0 0) : Sem Value).run P w =
      .ok (.bool (if op = .eql then p.isNone else !p.isNone)) w := by
  unfold uSlice at hu
  split at hu
  · rename_i e hd
    have hq' : ∀ d, (Op.equalIn (d + 1) t (.slice p l c) (.slice none 0 0)).run P w = .ok p.isNone w := fun d => by
      cases p <;> simp [Op.equalIn, run_underlying hd, pure, Sem.run]
    have hq : (Op.equal t (.slice p l c) (.slice none 0 0)).run P w = .ok p.isNone w := hq' 9999
    rcases hop with rfl | rfl
    · simp [eqGuard, binOp, hq, pure, Sem.run]
    · simp [eqGuard, binOp, hq, pure, Sem.run]
  · cases hu
theorem res_isnil (h : R C ι S σ H a w) {x y : Operand} {x' : Opd} {op : BinOp} {neg : Bool} {t t2 : TypeId} (ho : o.op = .binOp op t x y t2) (h1 : chkOpd x x' = true)
    (h2 : chkOpd y (.c .nilsl) = true) (hop : op = if neg then .neq else .eql) (ht : uSlice P t (fun _ => true) = true)
    (hw : opW P g σ H u (.isnil x' neg) K) (hg : g) : Res P C σ H a w o K := by
  obtain ⟨v1, hv1, hk⟩ := ung hw hg (ev h h1)
  have ey : a.eval y = .slice none 0 0 := avr_nilsl (ev h h2)
  have hop' : op = .eql ∨ op = .neq := by cases neg <;> simp_all
  have fin : ∀ {p : Option Addr} {l c : Nat} {b : Bool}, a.eval x = .slice p l c → b = (if neg then !p.isNone else p.isNone) → K (.c (.bool b)) [] → Res P C σ H a w o K := by
    intro p l c b e hb hK
    refine Res.pure h (v := .bool b) ?_ hK (.c _ _ (.bool _))
    simp only [execOp, ho, e, ey]
    rw [hb]
    have := run_isnil (P := P) (w := w) ht op hop' x y p l c
    rw [runV this]
    cases neg <;> simp [hop]
  split at hk
  · exact fin (avr_nilsl hv1) (by cases neg <;> rfl) hk
  · rename_i e xs
    obtain ⟨hne, hk⟩ := hk
    obtain ⟨b, p, cap, e1, _⟩ := vr_sl_pos (avr_c hv1) (List.length_pos_iff.2 (hne hg))
    exact fin e1 (by cases neg <;> rfl) hk
  · rename_i i off len
    have hO := avr_osl hv1
    have key : ∀ (e : Nat) (xs : List CV), (LH.get H i = some (.row e xs) ∨ LH.get H i = some (.vrow e xs)) → ((g → len ≠ 0) ∧ K (.c (.bool neg)) []) → Res P C σ H a w o K := by
      rintro e xs hget ⟨hne, hk⟩
      obtain ⟨_, e1⟩ := sliceAt_pos (oslOK_row hO hget).2 (Nat.pos_of_ne_zero (hne hg))
      exact fin e1 (by cases neg <;> rfl) hk
    split at hk
    · rename_i hget; exact key _ _ (.inl hget) hk
    · rename_i hget; exact key _ _ (.inr hget) hk
    · exact hk.elim
  · exact hk.elim
def isBool (P : Program) (t : TypeId) : Bool :=
  match P.underlying t with
  | some .bool => true
  | _ => false
theorem res_beq (h : R C ι S σ H a w) {x y : Operand} {x' y' : Opd} {t t2 : TypeId} (ho : o.op = .binOp .eql t x y t2) (h1 : chkOpd x x' = true)
    (h2 : chkOpd y y' = true) (ht : isBool P t = true) (hw : opW P g σ H u (.beq x' y') K) (hg : g) : Res P C σ H a w o K := by
  obtain ⟨v1, hv1, hk⟩ := ung hw hg (ev h h1)
  obtain ⟨v2, hv2, hk⟩ := ung hk hg (ev h h2)
  split at hk
  · rename_i p q _
    have ex := avr_bool (v := .c (.bool p)) hv1
    have ey := avr_bool (v := .c (.bool q)) hv2
    refine Res.pure h (v := .bool (p == q)) ?_ hk (.c _ _ (.bool _))
    simp only [execOp, ho, ex, ey]
    refine runV ?_
    unfold isBool at ht
    split at ht
    · rename_i hd
      have hq' : ∀ d, (Op.equalIn (d + 1) t (.bool p) (.bool q)).run P w = .ok (p == q) w := fun d => by
        simp [Op.equalIn, run_underlying hd, pure, Sem.run]
      have hq : (Op.equal t (.bool p) (.bool q)).run P w = .ok (p == q) w := hq' 9999
      simp [eqGuard, binOp, hq, pure, Sem.run]
    · cases ht
  · exact hk.elim
def chkOptd : Option Operand → Option Opd → Bool
  | none, none => true
  | some x, some y => chkOpd x y
  | _, _ => false
theorem res_bne (h : R C ι S σ H a w) {x y : Operand} {x' y' : Opd} {t t2 : TypeId} (ho : o.op = .binOp .neq t x y t2) (h1 : chkOpd x x' = true)
    (h2 : chkOpd y y' = true) (ht : isBool P t = true) (hw : opW P g σ H u (.bne x' y') K) (hg : g) : Res P C σ H a w o K := by
  obtain ⟨v1, hv1, hk⟩ := ung hw hg (ev h h1)
  obtain ⟨v2, hv2, hk⟩ := ung hk hg (ev h h2)
  split at hk
  · rename_i p q _
    have ex := avr_bool (v := .c (.bool p)) hv1
    have ey := avr_bool (v := .c (.bool q)) hv2
    refine Res.pure h (v := .bool (p != q)) ?_ hk (.c _ _ (.bool _))
    simp only [execOp, ho, ex, ey]
    refine runV ?_
    unfold isBool at ht
    split at ht
    · rename_i hd
      have hq' : ∀ d, (Op.equalIn (d + 1) t (.bool p) (.bool q)).run P w = .ok (p == q) w := fun d => by
        simp [Op.equalIn, run_underlying hd, pure, Sem.run]
      have hq : (Op.equal t (.bool p) (.bool q)).run P w = .ok (p == q) w := hq' 9999
      simp [eqGuard, binOp, hq, pure, Sem.run, bne]
    · cases ht
  · exact hk.elim
theorem optI_spec (h : R C ι S σ H a w) {x : Option Operand} {x' : Option Opd} (hc : chkOptd x x' = true) {F : Option Int → Prop} (hw : optI g σ x' F) (hg : g) :
    ∃ n, F n ∧ ((x = none ∧ n = none) ∨ ∃ y k m, x = some y ∧ n = some m ∧ a.eval y = .int k m) := by
  cases x' with
  | none =>
    cases x with
    | none => exact ⟨none, hw, .inl ⟨rfl, rfl⟩⟩
    | some _ => cases hc
  | some y =>
    cases x with
    | none => cases hc
    | some z =>
      obtain ⟨v1, hv1, hk⟩ := ung hw hg (ev h hc)
      split at hk
      · exact ⟨_, hk, .inr ⟨z, _, _, rfl, rfl, avr_int hv1⟩⟩
      · exact hk.elim
theorem run_bounds {isS : Bool} {len cap : Nat} {lo hi mx : Option Value} {l h m : Option Int}
    (hl : (lo = none ∧ l = none) ∨ ∃ k n, lo = some (.int k n) ∧ l = some n) (hh : (hi = none ∧ h = none) ∨ ∃ k n, hi = some (.int k n) ∧ h = some n)
    (hm : (mx = none ∧ m = none) ∨ ∃ k n, mx = some (.int k n) ∧ m = some n) (hmh : m.isSome = true → h.isSome = true)
    (hb : 0 ≤ l.getD 0 ∧ l.getD 0 ≤ h.getD len ∧ h.getD len ≤ m.getD (h.getD len) ∧ h.getD len ≤ len ∧ m.getD len ≤ len) (hc : len ≤ cap) :
    (Instr.sliceBounds isS len cap lo hi mx).run P w = .ok ((l.getD 0).toNat, (h.getD len).toNat, (m.getD cap).toNat) w := by
  obtain ⟨b1, b2, b3, b4, b5⟩ := hb
  rcases hl with ⟨rfl, rfl⟩ | ⟨k, n, rfl, rfl⟩ <;> rcases hh with ⟨rfl, rfl⟩ | ⟨k2, n2, rfl, rfl⟩ <;> rcases hm with ⟨rfl, rfl⟩ | ⟨k3, n3, rfl, rfl⟩ <;>
    simp only [Option.getD_some, Option.getD_none] at b1 b2 b3 b4 b5 ⊢ <;>
    first
      | (have hx := hmh rfl; simp at hx; done)
      | (simp (disch := omega) [Instr.sliceBounds, run_sliceBound, pure, Sem.run])
theorem run_slice {t e : TypeId} {sz : Nat} (hu : P.underlying t = some (.slice e)) (hs : szOf P e = some sz) (p : Option Addr) (len cap : Nat) {lo hi mx : Option Value} {l h m : Nat}
    (hb : (Instr.sliceBounds true len cap lo hi mx).run P w = .ok (l, h, m) w) :
    (Instr.sliceAt t (.slice p len cap) lo hi mx).run P w = .ok (.slice (if m = l then p else p.map (·.add (l * sz))) (h - l) (m - l)) w := by
  unfold szOf at hs
  obtain ⟨inf, hinf, hs1⟩ := Option.map_eq_some_iff.1 hs
  simp [Instr.sliceAt, Instr.slice, run_underlying hu, hb, sizeOf, typeInfo, hinf, hs1, pure, Sem.run]
theorem opt_ev {x : Option Operand} {n : Option Int} (h : (x = none ∧ n = none) ∨ ∃ y k m, x = some y ∧ n = some m ∧ a.eval y = .int k m) :
    (x.map a.eval = none ∧ n = none) ∨ ∃ k m, x.map a.eval = some (.int k m) ∧ n = some m := by
  rcases h with ⟨rfl, rfl⟩ | ⟨y, k, m, rfl, rfl, e⟩
  · exact .inl ⟨rfl, rfl⟩
  · exact .inr ⟨k, m, by simp [e], rfl⟩
theorem boundsW_spec {len : Nat} {lo hi mx : Option Int} {F : Nat → Nat → Prop} (h : boundsW g len lo hi mx F) (hg : g) :
    (0 ≤ lo.getD 0 ∧ lo.getD 0 ≤ hi.getD len ∧ hi.getD len ≤ mx.getD (hi.getD len) ∧ hi.getD len ≤ len ∧ mx.getD len ≤ len) ∧ F (lo.getD 0).toNat (hi.getD len).toNat :=
  ⟨h.1 hg, h.2⟩
theorem vr_cut {e : Nat} {xs : List CV} {p : Option Addr} {cap l h m : Nat} (hv : VR w S (.sl e xs) (.slice p xs.length cap)) (hle : l ≤ h) (hh : h ≤ xs.length) (hm : h ≤ m) :
    VR w S (.sl e ((xs.drop l).take (h - l))) (.slice (if m = l then p else p.map (·.add (l * e))) (h - l) (m - l)) := by
  by_cases hz : h = l
  · subst hz
    simp only [Nat.sub_self, List.take_zero]
    by_cases hml : m = h
    · simp only [hml, Nat.sub_self, if_true]; exact .slnil _ _ _
    · generalize hq : Value.slice p xs.length cap = z at hv
      cases hv with
      | slnil =>
        injection hq with h1 h2 h3
        subst h1
        exact .slnil _ _ _
      | sl _ _ b o cap' us hcap hl hc hu =>
        injection hq with h1 h2 h3
        subst h1
        rw [if_neg hml]
        simp only [Option.map_some, addr_add]
        exact .sl e [] b _ _ us (by simp) (fun x hx => by cases hx) (fun i j hi => by simp at hi) (fun i j hi => by simp at hi)
  · generalize hq : Value.slice p xs.length cap = z at hv
    cases hv with
    | slnil => simp at hh; omega
    | sl _ _ b o cap' us hcap hl hc hu =>
      injection hq with h1 h2 h3
      subst h1
      subst h3
      have hml : m ≠ l := by omega
      rw [if_neg hml]
      simp only [Option.map_some, addr_add]
      have hlen : ((xs.drop l).take (h - l)).length = h - l := by simp; omega
      have key : VR w S (.sl e ((xs.drop l).take (h - l))) (.slice (some ⟨b, o + l * e, none⟩) ((xs.drop l).take (h - l)).length (m - l)) := by
        refine .sl e _ b _ _ (fun i j => us (l + i) j) (by rw [hlen]; omega) (fun x hx => hl x (List.mem_of_mem_drop (List.mem_of_mem_take hx))) (fun i j hi hj => ?_) (fun i j hi hj => ?_)
        · have := hc (l + i) j (by omega) hj
          have eo : o + ((l + i) * e + j) = o + l * e + (i * e + j) := by rw [Nat.add_mul]; omega
          rw [← eo]
          exact this
        · have := hu (l + i) j (by omega) hj
          rw [getD_drop_take _ _ (by omega)]
          exact this
      rw [hlen] at key
      exact key
theorem sliceAt_cut {L : Loc} {e off len l h m : Nat} {p : Option Addr} {c : Nat} (hs : SliceAt L e off len (.slice p len c)) (hle : l ≤ h) (hh : h ≤ len) (hm : m = c) (hcc : len ≤ c) :
    SliceAt L e (off + l) (h - l) (.slice (if m = l then p else p.map (·.add (l * e))) (h - l) (m - l)) := by
  subst hm
  unfold SliceAt at hs ⊢
  split at hs
  · rename_i hn
    rw [if_pos hn]
    obtain ⟨rfl, h0, p', hp'⟩ := hs
    injection hp' with h1 h2 h3
    have : l = 0 := by omega
    have : h = 0 := by omega
    subst l; subst h; subst h3
    exact ⟨rfl, rfl, _, rfl⟩
  · rename_i hn
    rw [if_neg hn]
    rcases hs with hs | ⟨h0, p', hp'⟩
    · injection hs with h1 h2 h3
      by_cases hml : m = l
      · right
        have : h = l := by omega
        subst this
        rw [if_pos hml]
        exact ⟨Nat.sub_self _, p, by simp [hml]⟩
      · left
        rw [if_neg hml, h1]
        simp only [Option.map_some, addr_add]
        rw [h3, Nat.sub_sub, Nat.add_mul, Nat.add_assoc]
    · injection hp' with h1 h2 h3
      right
      have : l = 0 := by omega
      have : h = 0 := by omega
      subst l; subst h; subst h3
      exact ⟨rfl, _, rfl⟩
theorem sliceAt_cap {L : Loc} {e off len : Nat} {xs : List CV} {x : Value} (hs : SliceAt L e off len x) (hr : L.isnil = false → xs.length ≤ L.cap) (hle : off + len ≤ xs.length) :
    ∃ p c, x = .slice p len c ∧ len ≤ c := by
  unfold SliceAt at hs
  split at hs
  · obtain ⟨_, h0, p, rfl⟩ := hs; exact ⟨p, 0, by rw [h0], by omega⟩
  · rename_i hn
    have := hr (by simpa using hn)
    rcases hs with rfl | ⟨h0, p, rfl⟩
    · exact ⟨_, _, rfl, by omega⟩
    · exact ⟨p, 0, by rw [h0], by omega⟩
theorem row_cap (h : R C ι S σ H a w) {i e : Nat} {xs : List CV} (hget : LH.get H i = some (.row e xs) ∨ LH.get H i = some (.vrow e xs)) (hn : (ι i).isnil = false) : xs.length ≤ (ι i).cap := by
  rcases hget with hget | hget
  · have hr := h.hr.row _ _ _ hget
    unfold RowR at hr
    rw [if_neg (by simp [hn])] at hr
    exact hr.1
  · have hr := h.hr.vrow _ _ _ hget
    unfold VRowR at hr
    rw [if_neg (by simp [hn])] at hr
    generalize hz : Value.slice (some ⟨(ι i).block, (ι i).off, none⟩) xs.length (ι i).cap = z at hr
    cases hr with
    | slnil => simp
    | sl _ _ b p cap us h1 => 
      injection hz with _ _ hz3
      omega
theorem vr_len {e : Nat} {xs : List CV} {x : Value} (hv : VR w S (.sl e xs) x) : ∃ p c, x = .slice p xs.length c ∧ xs.length ≤ c := by
  cases hv with
  | slnil _ p c => exact ⟨p, c, rfl, by simp⟩
  | sl _ _ b o cap us hcap => exact ⟨_, _, rfl, hcap⟩
theorem res_slc (h : R C ι S σ H a w) {x : Operand} {lo hi mx : Option Operand} {x' : Opd} {lo' hi' mx' : Option Opd} {t e : TypeId} {sz : Nat} (ho : o.op = .slice t x lo hi mx)
    (h1 : chkOpd x x' = true) (hl : chkOptd lo lo' = true) (hh : chkOptd hi hi' = true) (hm : chkOptd mx mx' = true) (hmh : mx.isSome = true → hi.isSome = true)
    (hu : P.underlying t = some (.slice e)) (hs : szOf P e = some sz)
    (hw : opW P g σ H u (.slc x' lo' hi' mx' sz) K) (hg : g) : Res P C σ H a w o K := by
  obtain ⟨v1, hv1, hk1⟩ := ung hw hg (ev h h1)
  obtain ⟨nl, hk2, el⟩ := optI_spec h hl hk1 hg
  obtain ⟨nh, hk3, eh⟩ := optI_spec h hh hk2 hg
  obtain ⟨nm, hk, em⟩ := optI_spec h hm hk3 hg
  clear hk1 hk2 hk3 hw
  have hmh' : nm.isSome = true → nh.isSome = true := by
    intro hs
    rcases em with ⟨_, rfl⟩ | ⟨y, k, m, rfl, rfl, _⟩
    · cases hs
    · rcases eh with ⟨rfl, _⟩ | ⟨_, _, _, rfl, rfl, _⟩
      · exact absurd (hmh rfl) (by simp)
      · rfl
  have run : ∀ {p : Option Addr} {len c : Nat}, a.eval x = .slice p len c → (0 ≤ nl.getD 0 ∧ nl.getD 0 ≤ nh.getD len ∧ nh.getD len ≤ nm.getD (nh.getD len) ∧ nh.getD len ≤ len ∧ nm.getD len ≤ len) → len ≤ c →
      (execOp a.eval o).run P w = .ok (.value (.slice (if (nm.getD c).toNat = (nl.getD 0).toNat then p else p.map (·.add ((nl.getD 0).toNat * sz))) ((nh.getD len).toNat - (nl.getD 0).toNat) ((nm.getD c).toNat - (nl.getD 0).toNat))) w := by
    intro p len c ex hb hc
    have hr := run_bounds (P := P) (w := w) (isS := true) (opt_ev el) (opt_ev eh) (opt_ev em) hmh' hb hc
    simp only [execOp, ho, ex]
    exact runV (run_slice hu hs p len c hr)
  split at hk
  · rename_i id off len
    have hO := avr_osl hv1
    have key : ∀ (e' : Nat) (xs : List CV), (LH.get H id = some (.row e' xs) ∨ LH.get H id = some (.vrow e' xs)) → (e' = sz ∧ nm = none ∧ boundsW g len nl nh nm fun l h => K (.osl id (off + l) (h - l)) []) → Res P C σ H a w o K := by
      rintro e' xs hget ⟨rfl, hnm, hk⟩
      subst hnm
      obtain ⟨hb, hk⟩ := boundsW_spec hk hg
      obtain ⟨hle, hsl⟩ := oslOK_row hO hget
      obtain ⟨p, c, ex, hc⟩ := sliceAt_cap hsl (row_cap h hget) hle
      rw [ex] at hsl
      refine Res.pure h (run ex hb hc) hk (.osl _ _ _ _ ?_)
      have hcut := sliceAt_cut (l := (nl.getD 0).toNat) (h := (nh.getD len).toNat) (m := c) hsl (by omega) (by omega) rfl hc
      simp only [Option.getD_none, Int.toNat_natCast]
      unfold OslOK
      rcases hget with hget | hget <;> (rw [hget]; exact ⟨by omega, hcut⟩)
    split at hk
    · rename_i hget; exact key _ _ (.inl hget) hk
    · rename_i hget; exact key _ _ (.inr hget) hk
    · exact hk.elim
  · rename_i e' xs
    obtain ⟨rfl, hk⟩ := hk
    obtain ⟨hb, hk⟩ := boundsW_spec hk hg
    have hv := avr_c hv1
    obtain ⟨p, c, ex, hc⟩ := vr_len hv
    rw [ex] at hv
    have hmc : nh.getD xs.length ≤ nm.getD c := by
      cases nm with
      | none => simp only [Option.getD_none] at hb ⊢; omega
      | some m => simp only [Option.getD_some] at hb ⊢; omega
    refine Res.pure h (run ex hb hc) hk (.c _ _ (vr_cut hv (by omega) (by omega) (by omega)))
  · obtain ⟨hb, hk⟩ := boundsW_spec hk hg
    have ex := avr_nilsl hv1
    refine Res.pure h (run ex hb (Nat.le_refl _)) hk (.c _ _ ?_)
    have h1 : (nl.getD 0).toNat = 0 := by simp only [Int.natCast_zero] at hb; omega
    have h2 : (nh.getD ((0 : Nat) : Int)).toNat = 0 := by simp only [Int.natCast_zero] at hb ⊢; omega
    have h3 : (nm.getD ((0 : Nat) : Int)).toNat = 0 := by
      cases nm with
      | none => rfl
      | some m => simp only [Option.getD_some, Int.natCast_zero] at hb ⊢; omega
    rw [h1, h2, h3]
    exact .nilsl
  · exact hk.elim
theorem run_ssl {t : TypeId} (hu : P.underlying t = some .string) (s : ByteArray) {lo hi : Option Value} {l h m : Nat}
    (hb : (Instr.sliceBounds false s.size s.size lo hi none).run P w = .ok (l, h, m) w) :
    (Instr.sliceAt t (.string s) lo hi none).run P w = .ok (.string (s.extract l h)) w := by
  simp [Instr.sliceAt, Instr.slice, run_underlying hu, hb, pure, Sem.run]
theorem res_ssl (h : R C ι S σ H a w) {x : Operand} {lo hi : Option Operand} {x' : Opd} {lo' hi' : Option Opd} {t : TypeId} (ho : o.op = .slice t x lo hi none)
    (h1 : chkOpd x x' = true) (hl : chkOptd lo lo' = true) (hh : chkOptd hi hi' = true) (hu : P.underlying t = some .string)
    (hw : opW P g σ H u (.ssl x' lo' hi') K) (hg : g) : Res P C σ H a w o K := by
  obtain ⟨v1, hv1, hk1⟩ := ung hw hg (ev h h1)
  obtain ⟨nl, hk2, el⟩ := optI_spec h hl hk1 hg
  obtain ⟨nh, hk, eh⟩ := optI_spec h hh hk2 hg
  clear hk1 hk2 hw
  split at hk
  · obtain ⟨hb, hk⟩ := boundsW_spec hk hg
    have ex := avr_str hv1
    refine Res.pure h ?_ hk (.c _ _ (.str _))
    have hr := run_bounds (P := P) (w := w) (isS := false) (mx := none) (m := none) (opt_ev el) (opt_ev eh) (.inl ⟨rfl, rfl⟩) (by simp) hb (Nat.le_refl _)
    simp only [execOp, ho, ex, Option.map_none]
    exact runV (run_ssl hu _ hr)
  · exact hk.elim
theorem constOK_vr {v : Value} {c : CV} (hc : constOK v c = true) : VR w S c v := by
  unfold constOK at hc
  split at hc
  · simp at hc; subst hc; exact .bool _
  · simp at hc; obtain ⟨rfl, rfl⟩ := hc; exact .int _ _
  · simp at hc; subst hc; exact .flt _
  · rename_i s t
    obtain ⟨s⟩ := s
    obtain ⟨t⟩ := t
    simp at hc; subst hc; exact .str _
  · exact .nilsl
  · exact .slnil _ _ _
  · exact .nilfn
  · cases hc
theorem constOK_one {v : Value} {c : CV} (hc : constOK v c = true) : c.one = true := by
  unfold constOK at hc
  split at hc <;> first | rfl | cases hc
def zerosOK : List Value → List CV → Bool
  | [], [] => true
  | v :: l, c :: l' => constOK v c && zerosOK l l'
  | _, _ => false
theorem zerosOK_spec : ∀ (l : List Value) (z : List CV), zerosOK l z = true → l.length = z.length ∧ (∀ i, i < z.length → VR w S (z.getD i .undef) (l.getD i Go.undef)) ∧ ∀ c ∈ z, c.one = true
  | [], [], _ => ⟨rfl, fun i hi => by simp at hi, fun c hc => by cases hc⟩
  | v :: l, c :: z, h => by
    simp only [zerosOK, Bool.and_eq_true] at h
    obtain ⟨h1, h2, h3⟩ := zerosOK_spec l z h.2
    refine ⟨by simp [h1], fun i hi => ?_, fun x hx => ?_⟩
    · cases i with
      | zero => exact constOK_vr h.1
      | succ i => exact h2 i (by simpa using hi)
    · rcases List.mem_cons.1 hx with rfl | hx
      · exact constOK_one h.1
      · exact h3 x hx
  | [], _ :: _, h => by cases h
  | _ :: _, [], h => by cases h
def partsOK (place : Nat → Option (Nat × Nat)) : List (Nat × Operand) → List (Nat × Opd) → Bool
  | [], [] => true
  | (i, x) :: l, (off, y) :: l' => (place i == some (off, 1)) && chkOpd x y && partsOK place l l'
  | _, _ => false
def chkBld (P : Program) (t : TypeId) (z : List CV) (ps : List (Nat × Operand)) (ps' : List (Nat × Opd)) : Bool :=
  match P.info? t, P.underlying t with
  | some it, some (.array _ e) =>
    match it.zero, P.info? e with
    | some zv, some ie => zerosOK zv.cells.toList z && partsOK (fun i => some (i * ie.size, ie.size)) ps ps'
    | _, _ => false
  | some it, some (.struct fields) =>
    match it.zero, fields.toList.mapM (fun f => (P.info? f.type).map fun i => (f.offset, i.size)) with
    | some zv, some places => zerosOK zv.cells.toList z && partsOK (places.toArray[·]?) ps ps'
    | _, _ => false
  | _, _ => false
theorem fill_spec (h : R C ι S σ H a w) (hg : g) {place : Nat → Option (Nat × Nat)} : ∀ (ps : List (Nat × Operand)) (ps' : List (Nat × Opd)) (z : List CV) (cells : Array Value) (F : List CV → Prop),
    partsOK place ps ps' = true → bldW σ g z ps' F → cells.size = z.length → (∀ i, i < z.length → VR w S (z.getD i .undef) (cells.getD i Go.undef)) →
    ∃ cs cells', F cs ∧ Instr.fill place cells (ps.map fun x => (x.1, a.eval x.2)) = some cells' ∧ cells'.size = cs.length ∧ ∀ i, i < cs.length → VR w S (cs.getD i .undef) (cells'.getD i Go.undef)
  | [], [], z, cells, F, _, hF, hs, hv => ⟨z, cells, hF, rfl, hs, hv⟩
  | (i, x) :: ps, (off, y) :: ps', z, cells, F, hp, hF, hs, hv => by
    simp only [partsOK, Bool.and_eq_true, beq_iff_eq] at hp
    obtain ⟨⟨hpl, hcx⟩, hrest⟩ := hp
    obtain ⟨v, hv1, hk⟩ := ung hF hg (ev h hcx)
    split at hk
    · rename_i v
      obtain ⟨⟨hlt, h1⟩, hk⟩ := hk
      obtain ⟨hcell, _⟩ := (avr_c hv1).oneCell h1
      obtain ⟨cs, cells', hF', hfill, hsz, hvv⟩ := fill_spec h hg ps ps' (z.set off v) (cells.setIfInBounds off (a.eval x)) F hrest hk (by simp [hs]) (fun j hj => by
        simp only [List.length_set] at hj
        by_cases e : j = off
        · subst e
          have : j < cells.size := by omega
          simp [hj, this, List.getD_eq_getElem?_getD]; exact avr_c hv1
        · have := hv j hj
          simpa [List.getD_eq_getElem?_getD, List.getElem?_set, Ne.symm e, Array.getD_eq_getD_getElem?, Array.getElem?_setIfInBounds_ne (Ne.symm e)] using this)
      refine ⟨cs, cells', hF', ?_, hsz, hvv⟩
      have hlt' : off < cells.size := by omega
      simp only [List.map_cons]
      unfold Instr.fill
      simp only [hpl, hcell]
      rw [if_neg (by simp; omega)]
      simpa using hfill
    · exact hk.elim
theorem res_bld (h : R C ι S σ H a w) {t : TypeId} {parts : Array (Nat × Operand)} {z : List CV} {ps' : List (Nat × Opd)} (ho : o.op = .build t parts) (hc : chkBld P t z parts.toList ps' = true)
    (hw : opW P g σ H u (.bld z ps') K) (hg : g) : Res P C σ H a w o K := by
  have fin : ∀ (place : Nat → Option (Nat × Nat)) (zv : Value), zerosOK zv.cells.toList z = true → partsOK place parts.toList ps' = true →
      (∀ l, P.built t l = Instr.fill place zv.cells l) → Res P C σ H a w o K := by
    intro place zv hz hp hb
    obtain ⟨z1, z2, _⟩ := zerosOK_spec (w := w) (S := S) _ _ hz
    obtain ⟨cs, cells', hK, hfill, hsz, hv⟩ := fill_spec h hg _ _ z zv.cells _ hp hw (by simpa using z1) (fun i hi => by
      have := z2 i hi
      simpa [List.getD_eq_getElem?_getD, Array.getD_eq_getD_getElem?] using this)
    refine Res.pure h (v := .agg cells') ?_ hK (.c _ _ (.agg cs cells' hsz hv))
    simp only [execOp, ho]
    refine runV (run_build w t _ cells' ?_)
    rw [hb, ← hfill]
    simp
  unfold chkBld at hc
  split at hc
  · rename_i it n e hit hu
    split at hc
    · rename_i zv ie hz hie
      simp only [Bool.and_eq_true] at hc
      exact fin _ zv hc.1 hc.2 (fun l => by simp [Program.built, hit, hu, hz, hie])
    · cases hc
  · rename_i it fields hit hu
    split at hc
    · rename_i zv places hz hpl
      simp only [Bool.and_eq_true] at hc
      exact fin _ zv hc.1 hc.2 (fun l => by simp only [Program.built, hit, hu, hz, hpl])
    · cases hc
  · cases hc
theorem elems_spec (h : R C ι S σ H a w) {v : AV} {x : Value} {esz : Nat} {F : List CV → Prop} (hv : AVR ι H S w v x) (hw : elemsW H false esz v F) :
    ∃ xs, F xs ∧ ((xs = [] ∧ ∃ p c, x = .slice p 0 c) ∨ ∃ b o c, x = .slice (some ⟨b, o, none⟩) xs.length c ∧ (∀ y ∈ xs, y.wf esz) ∧
      ∀ i j, i < xs.length → j < esz → ∃ y, w.cell? ⟨b, o + (i * esz + j), none⟩ = some y ∧ VR w S ((xs.getD i .undef).cells.getD j .undef) y) := by
  unfold elemsW at hw
  split at hw
  · exact ⟨[], hw, .inl ⟨rfl, _, _, avr_nilsl hv⟩⟩
  · rename_i s xs
    obtain ⟨rfl, hw⟩ := hw
    refine ⟨xs, hw, ?_⟩
    have hv := avr_c hv
    by_cases hp : 0 < xs.length
    · obtain ⟨b, p, cap, e, _, hwf, hc⟩ := vr_sl_pos hv hp
      exact .inr ⟨b, p, cap, e, hwf, fun i j hi hj => let ⟨y, hy⟩ := hc i j hi hj; ⟨y, hy.2⟩⟩
    · have hx : xs = [] := List.eq_nil_of_length_eq_zero (by omega)
      obtain ⟨p, c, e, _⟩ := vr_len hv
      subst hx
      exact .inl ⟨rfl, p, c, e⟩
  · exact absurd hw.1.1 (by simp)
  · rename_i i off len
    have hO := avr_osl hv
    have key : ∀ (e : Nat) (xs : List CV), (LH.get H i = some (.row e xs) ∨ LH.get H i = some (.vrow e xs)) → (e = esz ∧ F ((xs.drop off).take len)) → ∃ ys, F ys ∧ ((ys = [] ∧ ∃ p c, x = .slice p 0 c) ∨ ∃ b o c, x = .slice (some ⟨b, o, none⟩) ys.length c ∧ (∀ y ∈ ys, y.wf esz) ∧
      ∀ i j, i < ys.length → j < esz → ∃ y, w.cell? ⟨b, o + (i * esz + j), none⟩ = some y ∧ VR w S ((ys.getD i .undef).cells.getD j .undef) y) := by
      rintro e xs hget ⟨rfl, hF⟩
      obtain ⟨hle, hsl⟩ := oslOK_row hO hget
      have hlen : ((xs.drop off).take len).length = len := by simp; omega
      refine ⟨_, hF, ?_⟩
      by_cases hp : 0 < len
      · obtain ⟨hn, ex⟩ := sliceAt_pos hsl hp
        refine .inr ⟨(ι i).block, (ι i).off + off * e, _, by rw [hlen]; exact ex, ?_⟩
        have hcell : (∀ p q, p < xs.length → q < e → ∃ x, w.cell? ⟨(ι i).block, (ι i).off + (p * e + q), none⟩ = some x ∧ VR w S ((xs.getD p .undef).cells.getD q .undef) x) ∧ ∀ y ∈ xs, y.wf e := by
          rcases hget with hget | hget
          · have hr := h.hr.row _ _ _ hget
            unfold RowR at hr
            rw [if_neg (by simp [hn])] at hr
            exact ⟨fun p q hp hq => hr.2.2.2 p q hp hq, hr.2.1⟩
          · have hr := h.hr.vrow _ _ _ hget
            unfold VRowR at hr
            rw [if_neg (by simp [hn])] at hr
            generalize hz : Value.slice (some ⟨(ι i).block, (ι i).off, none⟩) xs.length (ι i).cap = z at hr
            obtain ⟨b, p, cap, e2, _, hwf, hc⟩ := vr_sl_pos hr (by omega)
            rw [e2] at hz
            injection hz with hz1 hz2 hz3
            injection hz1 with hz1
            injection hz1 with hb hp _
            subst hb; subst hp
            exact ⟨fun p q hp hq => let ⟨x, hx⟩ := hc p q hp hq; ⟨x, hx.2⟩, hwf⟩
        refine ⟨fun y hy => hcell.2 y (List.mem_of_mem_drop (List.mem_of_mem_take hy)), fun p q hp hq => ?_⟩
        obtain ⟨y, hy, hyv⟩ := hcell.1 (off + p) q (by omega) hq
        refine ⟨y, ?_, ?_⟩
        · rw [← hy]; congr 2; rw [Nat.add_mul]; omega
        · rw [getD_drop_take _ _ (by omega)]; exact hyv
      · have h0 : len = 0 := by omega
        subst h0
        obtain ⟨p, c, ex⟩ := sliceLen hsl
        exact .inl ⟨by simp, p, c, ex⟩
    split at hw
    · rename_i hget; exact key _ _ (.inl hget) hw
    · rename_i hget; exact key _ _ (.inr hget) hw
    · exact hw.elim
  · exact hw.elim
theorem u8_list : ∀ (xs : List CV), (∀ x ∈ xs, isU8 x) → ∃ ns : List Int, xs = ns.map (.int .u8)
  | [], _ => ⟨[], rfl⟩
  | x :: xs, h => by
    obtain ⟨ns, rfl⟩ := u8_list xs (fun y hy => h y (List.mem_cons_of_mem _ hy))
    have hx := h x List.mem_cons_self
    unfold isU8 at hx
    split at hx
    · rename_i n; exact ⟨n :: ns, rfl⟩
    · exact hx.elim
theorem foldl_push : ∀ (ns : List Int) (s : ByteArray), ns.foldl (fun r n => r.push (UInt8.ofNat n.toNat)) s = ⟨s.data ++ (ns.map fun n => UInt8.ofNat n.toNat).toArray⟩
  | [], s => by simp
  | n :: ns, s => by
    rw [List.foldl_cons, foldl_push ns]
    simp [ByteArray.push]
theorem mkStr_u8 (ns : List Int) : mkStr (ns.map (.int .u8)) = ns.foldl (fun r n => r.push (UInt8.ofNat n.toNat)) ByteArray.empty := by
  rw [foldl_push]
  simp only [mkStr, List.map_map]
  have e : ByteArray.empty.data = #[] := rfl
  rw [e, Array.empty_append]
  rfl
theorem res_b2s (h : R C ι S σ H a w) {x : Operand} {x' : Opd} {s d e : TypeId} (ho : o.op = .convert s d x) (h1 : chkOpd x x' = true)
    (hs : P.underlying s = some (.slice e)) (he : P.underlying e = some (.int .u8)) (hd : P.underlying d = some .string)
    (hw : opW P g σ H u (.b2s x') K) (hg : g) : Res P C σ H a w o K := by
  obtain ⟨v1, hv1, hk⟩ := ung hw hg (ev h h1)
  obtain ⟨xs, ⟨hu8, hK⟩, hx⟩ := elems_spec h hv1 hk
  refine Res.pure h ?_ hK (.c _ _ (.str _))
  obtain ⟨ns, rfl⟩ := u8_list xs hu8
  rcases hx with ⟨hnil, p, c, ex⟩ | ⟨b, q, c, ex, hwf, hc⟩
  · have hn : ns = [] := by cases ns with | nil => rfl | cons => simp at hnil
    subst hn
    simp only [execOp, ho, ex]
    refine runV ?_
    rw [run_convert_bytes_string w s d e p 0 c hs he hd]
    cases p with
    | none => simp [Conv.bytesToString, mkStr, pure, Sem.run]; rfl
    | some p =>
      have := run_bytesToString (P := P) w p 0 c [] (by simp [loadCells, loadCellsFrom, pure, Sem.run])
      rw [this]; rfl
  · simp only [execOp, ho, ex]
    refine runV ?_
    rw [run_convert_bytes_string w s d e _ _ c hs he hd, run_bytesToString (P := P) w ⟨b, q, none⟩ _ c ns ?_, mkStr_u8]
    have hl := run_loadCells_list (P := P) w ⟨b, q, none⟩ (ns.map (Value.int .u8)) (fun j v hv => by
      have hj : j < ns.length := by have := (List.getElem?_eq_some_iff.1 hv).1; simpa using this
      obtain ⟨y, hy, hyv⟩ := hc j 0 (by simpa using hj) (by omega)
      rw [addr_add]
      have e1 : q + j = q + (j * 1 + 0) := by omega
      rw [e1, hy]
      simp only [List.getElem?_map, List.getElem?_eq_getElem hj, Option.map_some, Option.some.injEq] at hv
      subst hv
      have : (((ns.map (CV.int .u8)).getD j .undef).cells.getD 0 .undef) = .int .u8 ns[j] := by
        simp [List.getD_eq_getElem?_getD, hj, CV.cells]
      rw [this] at hyv
      cases hyv; rfl)
    simpa using hl
end
section
variable {P : Program} {C : Ctx} {ι : Nat → Loc} {S : Nat → Nat → Prop} {σ : Slots} {H : LH} {a : Act} {w : World} {o : Oper} {K : AV → List (Nat × LObj) → Prop} {g : Prop} {u : Nat}
theorem fresh_none {u : Nat} (hf : fresh H u) {k : Nat} (hk : k < 64) : LH.get H (64 * u + k) = none ∧ 64 * u + k < argBase := by
  refine ⟨?_, by have := hf.1; unfold argBase; omega⟩
  have h2 := hf.2
  clear hf
  induction H with
  | nil => rfl
  | cons x H ih =>
    obtain ⟨j, p⟩ := x
    have hj : j ≠ 64 * u + k := fun e => h2 (j, p) List.mem_cons_self (by rw [e]; omega)
    simp only [LH.get, if_neg hj]
    exact ih (fun x hx => h2 x (List.mem_cons_of_mem _ hx))
theorem cell_new {w w' : World} {cells : Array Value} {t : TypeId} {fz : Nat × Nat} (hh : w'.heap = w.heap.push (.cells cells t fz)) (k : Nat) :
    w'.cell? ⟨w.heap.size, k, none⟩ = cells[k]? := by
  simp [World.cell?, hh]
theorem frozen_new {w w' : World} {cells : Array Value} {t : TypeId} (hh : w'.heap = w.heap.push (.cells cells t (0, 0))) (k : Nat) :
    w'.frozen? ⟨w.heap.size, k, none⟩ = false := by
  simp [World.frozen?, hh]
theorem cell_push {w w' : World} {ob : Obj} (hh : w'.heap = w.heap.push ob) {b k : Nat} {x : Value} (h : w.cell? ⟨b, k, none⟩ = some x) : w'.cell? ⟨b, k, none⟩ = some x := by
  have hb : w'.heap[b]? = w.heap[b]? := by rw [hh, Array.getElem?_push, if_neg (by have := cell_lt h; omega)]
  rw [cell_block hb]; exact h
theorem LH.get_keep {i j : Nat} {p : LObj} {ob : LObj} (hn : LH.get H i = none) (hj : LH.get H j = some p) : LH.get (LH.set H i ob) j = some p := by
  have : j ≠ i := fun e => by rw [e, hn] at hj; cases hj
  rw [LH.get_set, if_neg this]; exact hj
theorem keep_new {i : Nat} {L : Loc} {ob : LObj} (hn : LH.get H i = none) : ∀ j p, LH.get H j = some p → ∃ p', LH.get (LH.set H i ob) j = some p' ∧ Kept ι (updL ι i L) j p p' := by
  intro j p hj
  have hne : j ≠ i := fun e => by rw [e, hn] at hj; cases hj
  refine ⟨p, LH.get_keep hn hj, ?_⟩
  have := Kept.refl ι j p
  unfold Kept at this ⊢
  cases p <;> simp_all [updL_ne]
theorem mk_obj (h : R C ι S σ H a w) (hf : fresh H u) {w' : World} {cells : Array Value} {t : TypeId} (hh : w'.heap = w.heap.push (.cells cells t (0, 0)))
    (ho : w'.os = w.os) (ht : w'.tape = w.tape) (hp : w'.output = w.output) {cs : List AV} (hl : cells.size = cs.length)
    (hv : ∀ i, i < cs.length → AVR ι H S w (cs.getD i (.c .undef)) (cells.getD i Go.undef)) :
    ∃ ι', R C ι' S σ (LH.sets H [(64 * u, .obj cs)]) a w' ∧ AVR ι' (LH.sets H [(64 * u, .obj cs)]) S w' (.ref (64 * u) 0) (.pointer (some ⟨w.heap.size, 0, none⟩)) := by
  obtain ⟨hn, hlt⟩ := fresh_none hf (k := 0) (by omega)
  rw [Nat.add_zero] at hn hlt
  have hget : LH.get (LH.set H (64 * u) (.obj cs)) (64 * u) = some (.obj cs) := by rw [LH.get_set, if_pos rfl]
  refine ⟨updL ι (64 * u) ⟨w.heap.size, 0, 0, false⟩, ?_, .ref _ _ _ ?_⟩
  · refine h.new (64 * u) hn hlt ⟨w.heap.size, 0, 0, false⟩ (fun _ => rfl) _ (.obj cs) (by simp) (.inl hh) ho ht hp ?_
    unfold NewAt
    rw [hget, updL_same]
    intro k hk
    refine ⟨cells.getD k Go.undef, ?_, ?_, ?_⟩
    · simp only [Nat.zero_add]
      rw [cell_new hh k]
      have : k < cells.size := by omega
      simp [this]
    · exact frozen_new hh _
    · exact (hv k hk).mono (fun b p x hs hx => ⟨hs, cell_push hh hx⟩) (keep_new hn)
  · unfold RefOK
    simp only [LH.sets]
    rw [hget]
    exact ⟨Nat.zero_le _, by rw [updL_same]⟩
theorem run_zero {t : TypeId} {it : TypeInfo} {zv : Value} (hi : P.info? t = some it) (hz : it.zero = some zv) : (zeroValue t).run P w = .ok zv w := by
  simp [zeroValue, typeInfo, hi, hz, pure, Sem.run]
theorem run_newVar (t : TypeId) (v : Value) : (newVar t v).run P w = .ok ⟨w.heap.size, 0, none⟩ { w with heap := w.heap.push (.cells v.cells t) } := by
  simp [newVar, newRow, newObj, pure, Sem.run]
def chkAlloc (P : Program) (t : TypeId) (z : List CV) : Bool :=
  match P.info? t with
  | some it => match it.zero with
    | some zv => zerosOK zv.cells.toList z
    | none => false
  | none => false
theorem res_alloc (h : R C ι S σ H a w) {t : TypeId} {z : List CV} (ho : o.op = .alloc t) (hc : chkAlloc P t z = true)
    (hw : opW P g σ H u (.alloc z) K) : Res P C σ H a w o K := by
  obtain ⟨hf, hK⟩ := hw
  unfold chkAlloc at hc
  split at hc
  · rename_i it hit
    split at hc
    · rename_i zv hz
      obtain ⟨z1, z2, _⟩ := zerosOK_spec (w := w) (S := S) _ _ hc
      obtain ⟨ι', hR, hv⟩ := mk_obj (u := u) (cells := zv.cells) (t := t) h hf (w' := { w with heap := w.heap.push (.cells zv.cells t) }) rfl rfl rfl rfl (cs := z.map .c) (by simpa using z1) (fun i hi => by
        have := z2 i (by simpa using hi)
        rw [getD_map_c]
        exact .c _ _ (by simpa [List.getD_eq_getElem?_getD, Array.getD_eq_getD_getElem?] using this))
      refine ⟨_, _, _, ι', S, _, _, ?_, .inl rfl, hK, hR, hv⟩
      simp only [execOp, ho]
      refine runV ?_
      simp [Instr.alloc, run_zero hit hz, run_newVar, pure, Sem.run]
    · cases hc
  · cases hc
theorem storable_cell {v : AV} {x : Value} (hv : AVR ι H S w v x) (hs : storable H v) : x.cells = #[x] ∧ x.oneCell' = true := by
  unfold storable at hs
  split at hs
  · exact (avr_c hv).oneCell hs
  · have hO := avr_osl hv
    have : ∃ p l c, x = .slice p l c := by
      split at hs
      · rename_i hget; obtain ⟨p, c, e⟩ := sliceLen (oslOK_row hO (.inl hget)).2; exact ⟨p, _, c, e⟩
      · rename_i hget; obtain ⟨p, c, e⟩ := sliceLen (oslOK_row hO (.inr hget)).2; exact ⟨p, _, c, e⟩
      · exact hs.elim
    obtain ⟨p, l, c, rfl⟩ := this
    exact ⟨rfl, rfl⟩
  · split at hs
    · rename_i hget
      obtain ⟨_, rfl⟩ := refOK_obj (avr_ref hv) hget
      exact ⟨rfl, rfl⟩
    · exact hs.elim
  · exact hs.elim
theorem res_box (h : R C ι S σ H a w) {t : TypeId} {x : Operand} {x' : Opd} (ho : o.op = .box t x) (h1 : chkOpd x x' = true)
    (hw : opW P g σ H u (.box x') K) : Res P C σ H a w o K := by
  have hv := ev h h1
  have fin : ∀ (cs : List AV), fresh H u → (a.eval x).cells.size = cs.length → (∀ i, i < cs.length → AVR ι H S w (cs.getD i (.c .undef)) ((a.eval x).cells.getD i Go.undef)) →
      K (.ref (64 * u) 0) [(64 * u, .obj cs)] → Res P C σ H a w o K := by
    intro cs hf hl hcs hK
    obtain ⟨ι', hR, hv⟩ := mk_obj (u := u) (cells := (a.eval x).cells) (t := t) h hf (w' := { w with heap := w.heap.push (.cells (a.eval x).cells t) }) rfl rfl rfl rfl hl hcs
    refine ⟨_, _, _, ι', S, _, _, ?_, .inl rfl, hK, hR, hv⟩
    simp only [execOp, ho]
    refine runV ?_
    simp [Instr.box, run_newVar, pure, Sem.run]
  simp only [opW] at hw
  split at hw
  · rename_i vs e
    rw [e] at hv
    obtain ⟨us, ex, hl, hu⟩ := vr_agg (avr_c hv)
    refine fin _ hw.1.1 (by rw [ex]; simpa [Value.cells] using hl) (fun i hi => ?_) hw.2
    rw [getD_map_c, ex]
    exact .c _ _ (hu i (by simpa using hi))
  · obtain ⟨hcell, _⟩ := storable_cell hv hw.1.2
    refine fin _ hw.1.1 (by rw [hcell]; rfl) (fun i hi => ?_) hw.2
    have : i = 0 := by simp at hi; omega
    subst this
    rw [hcell]
    simpa using hv
theorem run_storeAt {t : TypeId} {sz : Nat} (hs : szOf P t = some sz) {b p : Nat} {v : Value} (hl : v.cells.size = sz) (h1 : ∀ x ∈ v.cells.toList, x.oneCell' = true)
    (hc : ∀ j, j < sz → ∃ x, w.cell? ⟨b, p + j, none⟩ = some x) (hf : ∀ j, j < sz → w.frozen? ⟨b, p + j, none⟩ = false) :
    (Instr.storeAt t (.pointer (some ⟨b, p, none⟩)) v).run P w = .ok () (w.setCells b p v.cells.toList) := by
  unfold szOf at hs
  obtain ⟨inf, hinf, hs1⟩ := Option.map_eq_some_iff.1 hs
  have hst := run_storeCells_cells (P := P) b p v.cells.toList 0 w (fun j hj => by
    obtain ⟨x, hx⟩ := hc j (by simp at hj; omega)
    rw [Nat.add_zero, hx]; rfl) (fun j hj => by rw [Nat.add_zero]; exact hf j (by simp at hj; omega)) h1
  simp [Instr.storeAt, Instr.sureAddr, storeVar, sizeOf, typeInfo, hinf, hs1, hl, hst, pure, Sem.run]
theorem heap_setCells (b : Nat) : ∀ (vs : List Value) (o : Nat) (w : World), (w.setCells b o vs).heap.size = w.heap.size ∧ (∀ k, k ≠ b → (w.setCells b o vs).heap[k]? = w.heap[k]?) ∧
    (w.setCells b o vs).os = w.os ∧ (w.setCells b o vs).tape = w.tape ∧ (w.setCells b o vs).output = w.output
  | [], _, _ => ⟨rfl, fun _ _ => rfl, rfl, rfl, rfl⟩
  | v :: r, o, w => by
    obtain ⟨h1, h2, h3, h4, h5⟩ := heap_setCells b r (o + 1) (w.setCell ⟨b, o, none⟩ v)
    refine ⟨by rw [World.setCells, h1]; simp [World.setCell], fun k hk => ?_, h3, h4, h5⟩
    rw [World.setCells, h2 k hk]
    exact Below.heap_setCell _ _ _ _ hk
theorem cell_setCells (b o : Nat) (vs : List Value) (hc : ∀ j, j < vs.length → ∃ x, w.cell? ⟨b, o + j, none⟩ = some x) (k : Nat) :
    (w.setCells b o vs).cell? ⟨b, k, none⟩ = if o ≤ k ∧ k < o + vs.length then some (vs.getD (k - o) Go.undef) else w.cell? ⟨b, k, none⟩ := by
  split
  · rename_i hk
    have := World.cell?_setCells_in b vs o w (fun j hj => by obtain ⟨x, hx⟩ := hc j hj; rw [hx]; rfl) (k - o) (by omega)
    have e : o + (k - o) = k := by omega
    rw [e] at this
    rw [this, List.getD_eq_getElem?_getD, List.getElem?_eq_getElem (by omega)]
    rfl
  · rename_i hk
    exact World.cell?_setCells_out b vs o w ⟨b, k, none⟩ (fun _ _ => by simp only; omega)
def chkStore (P : Program) (t : TypeId) (n : Option Nat) : Bool :=
  match n with
  | none => szOf P t == some 1
  | some n => szOf P t == some n
theorem same_kept {i : Nat} {ob ob' : LObj} (hg : LH.get H i = some ob) (hk : Kept ι ι i ob ob') : ∀ j p, LH.get H j = some p → ∃ p', LH.get (LH.set H i ob') j = some p' ∧ Kept ι ι j p p' := by
  intro j p hj
  by_cases e : j = i
  · subst e
    rw [hg] at hj
    cases hj
    exact ⟨ob', by rw [LH.get_set, if_pos rfl], hk⟩
  · exact ⟨p, by rw [LH.get_set, if_neg e]; exact hj, Kept.refl _ _ _⟩
theorem wr_obj (h : R C ι S σ H a w) {i off : Nat} {cs : List AV} (hget : LH.get H i = some (.obj cs)) (vs : List AV) (us : List Value) (hl : us.length = vs.length) (hle : off + vs.length ≤ cs.length)
    (hv : ∀ j, j < vs.length → AVR ι H S w (vs.getD j (.c .undef)) (us.getD j Go.undef)) :
    R C ι S σ (LH.set H i (.obj (cs.take off ++ vs ++ cs.drop (off + vs.length)))) a (w.setCells (ι i).block ((ι i).off + off) us) := by
  have hw : Owned ι H i := by unfold Owned; rw [hget]; trivial
  obtain ⟨z1, z2, z3, z4, z5⟩ := heap_setCells (ι i).block us ((ι i).off + off) w
  have hobj := h.hr.obj _ _ hget
  have hlen : (cs.take off ++ vs ++ cs.drop (off + vs.length)).length = cs.length := by simp; omega
  have hk : Kept ι ι i (.obj cs) (.obj (cs.take off ++ vs ++ cs.drop (off + vs.length))) := ⟨rfl, hlen⟩
  refine h.write hget hw hk (by simp) (fun b hb => z2 b hb) z1 z3 z4 z5 ?_
  unfold NewAt
  rw [LH.get_set, if_pos rfl]
  intro k hkl
  rw [hlen] at hkl
  have hcell := cell_setCells (w := w) (ι i).block ((ι i).off + off) us (fun j hj => by
    obtain ⟨x, hx, _⟩ := hobj (off + j) (by omega)
    exact ⟨x, by rw [Nat.add_assoc]; exact hx⟩) ((ι i).off + k)
  have views : ∀ b p x, S b p → w.cell? ⟨b, p, none⟩ = some x → S b p ∧ (w.setCells (ι i).block ((ι i).off + off) us).cell? ⟨b, p, none⟩ = some x := fun b p x hs hx =>
    ⟨hs, by rw [cell_block (z2 b (fun e => h.hr.disj i hw (e ▸ hs)))]; exact hx⟩
  have hfr : (w.setCells (ι i).block ((ι i).off + off) us).frozen? ⟨(ι i).block, (ι i).off + k, none⟩ = false := by
    rw [World.frozen?_setCells]
    obtain ⟨_, _, hx, _⟩ := hobj k hkl
    exact hx
  by_cases hin : off ≤ k ∧ k < off + vs.length
  · refine ⟨us.getD (k - off) Go.undef, ?_, hfr, ?_⟩
    · rw [hcell, if_pos (by omega)]
      congr 2; omega
    · have e : (cs.take off ++ vs ++ cs.drop (off + vs.length)).getD k (.c .undef) = vs.getD (k - off) (.c .undef) := by
        have h1 : (cs.take off).length = off := by simp; omega
        simp only [List.getD_eq_getElem?_getD]
        rw [List.append_assoc, List.getElem?_append_right (by omega), h1, List.getElem?_append_left (by omega)]
      rw [e]
      exact (hv (k - off) (by omega)).mono views (same_kept hget hk)
  · obtain ⟨x, hx, _, hxv⟩ := hobj k hkl
    refine ⟨x, by rw [hcell, if_neg (by omega)]; exact hx, hfr, ?_⟩
    have e : (cs.take off ++ vs ++ cs.drop (off + vs.length)).getD k (.c .undef) = cs.getD k (.c .undef) := by
      have h1 : (cs.take off).length = off := by simp; omega
      simp only [List.getD_eq_getElem?_getD]
      by_cases hk1 : k < off
      · rw [List.append_assoc, List.getElem?_append_left (by omega), List.getElem?_take, if_pos hk1]
      · rw [List.append_assoc, List.getElem?_append_right (by omega), h1, List.getElem?_append_right (by omega), List.getElem?_drop]
        congr 2; omega
    rw [e]
    exact hxv.mono views (same_kept hget hk)
theorem wr_row (h : R C ι S σ H a w) {i idx f e : Nat} {xs : List CV} (hget : LH.get H i = some (.row e xs)) (hn : (ι i).isnil = false) (hidx : idx < xs.length) (us : List Value) (hfe : f + us.length ≤ e)
    (y : CV) (hy : y.wf e)
    (hin : ∀ q, f ≤ q → q < f + us.length → VR w S (y.cells.getD q .undef) (us.getD (q - f) Go.undef))
    (hout : ∀ q, (q < f ∨ f + us.length ≤ q) → q < e → y.cells.getD q .undef = (xs.getD idx .undef).cells.getD q .undef) :
    R C ι S σ (LH.set H i (.row e (xs.set idx y))) a (w.setCells (ι i).block ((ι i).off + (idx * e + f)) us) := by
  have hw : Owned ι H i := by unfold Owned; rw [hget]; exact hn
  obtain ⟨z1, z2, z3, z4, z5⟩ := heap_setCells (ι i).block us ((ι i).off + (idx * e + f)) w
  have hrow := h.hr.row _ _ _ hget
  unfold RowR at hrow
  rw [if_neg (by simp [hn])] at hrow
  obtain ⟨r1, r2, r3, r4⟩ := hrow
  have hk : Kept ι ι i (.row e xs) (.row e (xs.set idx y)) := ⟨rfl, rfl, by simp⟩
  refine h.write hget hw hk (by simp) (fun b hb => z2 b hb) z1 z3 z4 z5 ?_
  unfold NewAt
  rw [LH.get_set, if_pos rfl]
  show RowR _ _ _ _ _
  unfold RowR
  rw [if_neg (by simp [hn])]
  have hcell := fun k => cell_setCells (w := w) (ι i).block ((ι i).off + (idx * e + f)) us (fun j hj => by
    obtain ⟨x, hx, _⟩ := r4 idx (f + j) hidx (by omega)
    refine ⟨x, ?_⟩
    rw [← hx]; congr 2; omega) k
  have views : ∀ b p x, S b p → w.cell? ⟨b, p, none⟩ = some x → S b p ∧ (w.setCells (ι i).block ((ι i).off + (idx * e + f)) us).cell? ⟨b, p, none⟩ = some x := fun b p x hs hx =>
    ⟨hs, by rw [cell_block (z2 b (fun e => h.hr.disj i hw (e ▸ hs)))]; exact hx⟩
  refine ⟨by simp; exact r1, fun x hx => ?_, fun p hp => ?_, fun p q hp hq => ?_⟩
  · rcases List.mem_or_eq_of_mem_set hx with hx | rfl
    · exact r2 x hx
    · exact hy
  · rw [World.frozen?_setCells]
    refine ⟨?_, (r3 p hp).2⟩
    obtain ⟨x, hx⟩ := (r3 p hp).1
    rw [hcell]
    split
    · exact ⟨_, rfl⟩
    · exact ⟨x, hx⟩
  · simp only [List.length_set] at hp
    by_cases hpi : p = idx
    · subst hpi
      have e1 : (xs.set p y).getD p .undef = y := by simp [List.getD_eq_getElem?_getD, hp]
      rw [e1]
      by_cases hqi : f ≤ q ∧ q < f + us.length
      · refine ⟨us.getD (q - f) Go.undef, ?_, (hin q hqi.1 hqi.2).mono views⟩
        rw [hcell, if_pos (by omega)]
        congr 2; omega
      · obtain ⟨x, hx, hxv⟩ := r4 p q hp hq
        refine ⟨x, by rw [hcell, if_neg (by omega)]; exact hx, ?_⟩
        rw [hout q (by omega) hq]
        exact hxv.mono views
    · have e1 : (xs.set idx y).getD p .undef = xs.getD p .undef := by simp [List.getD_eq_getElem?_getD, List.getElem?_set, Ne.symm hpi]
      rw [e1]
      obtain ⟨x, hx, hxv⟩ := r4 p q hp hq
      refine ⟨x, ?_, hxv.mono views⟩
      rw [hcell, if_neg ?_]
      · exact hx
      · intro hcon
        rcases Nat.lt_or_gt_of_ne hpi with hlt | hgt
        · have : (p + 1) * e ≤ idx * e := Nat.mul_le_mul_right _ hlt
          rw [Nat.add_mul] at this
          omega
        · have : (idx + 1) * e ≤ p * e := Nat.mul_le_mul_right _ hgt
          rw [Nat.add_mul] at this
          omega
theorem vr_one_cells {vs : List CV} {us : Array Value} (hl : us.size = vs.length) (hu : ∀ i, i < vs.length → VR w S (vs.getD i .undef) (us.getD i Go.undef)) (h1 : ∀ c ∈ vs, c.one = true) :
    ∀ x ∈ us.toList, x.oneCell' = true := by
  intro x hx
  obtain ⟨i, hi, rfl⟩ := List.getElem_of_mem hx
  have hi' : i < vs.length := by simp at hi; omega
  have := hu i hi'
  have e1 : us.getD i Go.undef = us.toList[i] := by
    have : i < us.size := by simpa using hi
    simp [this]
  rw [e1] at this
  exact (this.oneCell (h1 _ (getD_mem hi'))).2
theorem getD_set_self {α : Type} {i : Nat} {v d : α} (l' : List α) (h : i < l'.length) : (l'.set i v).getD i d = v := by
  simp [List.getD_eq_getElem?_getD, h]
theorem getD_set_ne {α : Type} {i j : Nat} {v d : α} (l : List α) (h : i ≠ j) : (l.set i v).getD j d = l.getD j d := by
  simp [List.getD_eq_getElem?_getD, List.getElem?_set, h]
theorem one_cells {v : CV} (h : v.one = true) : v.cells = [v] := by
  cases v <;> first | rfl | cases h
theorem setC_spec {X : CV} {e f : Nat} {v : CV} (hwf : X.wf e) (hfe : f < e) (hone : v.one = true) : (setC X f v).wf e ∧ (setC X f v).cells = X.cells.set f v := by
  obtain ⟨hl, ho⟩ := hwf
  by_cases hX : ∃ cs, X = .agg cs
  · obtain ⟨cs, rfl⟩ := hX
    refine ⟨⟨by simp only [setC, CV.cells, List.length_set]; exact hl, fun c hc => ?_⟩, rfl⟩
    rcases List.mem_or_eq_of_mem_set (show c ∈ cs.set f v from hc) with hc | rfl
    · exact ho c hc
    · exact hone
  · have hc : X.cells = [X] ∧ setC X f v = v := by
      cases X <;> first | exact ⟨rfl, rfl⟩ | exact absurd ⟨_, rfl⟩ hX
    rw [hc.1] at hl
    have he : e = 1 := by simpa using hl.symm
    have hf0 : f = 0 := by omega
    subst hf0
    rw [hc.2, hc.1, one_cells hone]
    refine ⟨⟨by rw [one_cells hone]; simp [he], fun c hcc => ?_⟩, rfl⟩
    rw [one_cells hone] at hcc
    simp at hcc; rw [hcc]; exact hone
theorem res_st (h : R C ι S σ H a w) {t : TypeId} {x y : Operand} {x' y' : Opd} {n : Option Nat} (ho : o.op = .store t x y) (h1 : chkOpd x x' = true) (h2 : chkOpd y y' = true) (ht : chkStore P t n = true)
    (hw : opW P g σ H u (.st x' y' n) K) : Res P C σ H a w o K := by
  have hv1 := ev h h1
  have hv2 := ev h h2
  have fin : ∀ {b p sz : Nat}, szOf P t = some sz → a.eval x = .pointer (some ⟨b, p, none⟩) → (a.eval y).cells.size = sz → (∀ x ∈ (a.eval y).cells.toList, x.oneCell' = true) →
      (∀ j, j < sz → ∃ x, w.cell? ⟨b, p + j, none⟩ = some x) → (∀ j, j < sz → w.frozen? ⟨b, p + j, none⟩ = false) →
      ∀ ws, K (.c .undef) ws → R C ι S σ (LH.sets H ws) a (w.setCells b p (a.eval y).cells.toList) → Res P C σ H a w o K := by
    intro b p sz hs ex hl ho1 hc hf ws hK hR
    refine ⟨.skip, Go.undef, _, ι, S, _, ws, ?_, .inr ⟨rfl, rfl⟩, hK, hR, AVR.undef _⟩
    simp only [execOp, ho, ex]
    rw [Sem.run_bind, run_storeAt hs hl ho1 hc hf]
    simp [pure, Sem.run]
  simp only [opW, storeW] at hw
  split at hw
  · rename_i i off e1
    rw [e1] at hv1
    split at hw
    · rename_i cs hget
      obtain ⟨hle, ex⟩ := refOK_obj (avr_ref hv1) hget
      have hobj := h.hr.obj _ _ hget
      cases n with
      | none =>
        dsimp only at hw
        obtain ⟨hlt, hst, hK⟩ := hw
        obtain ⟨hcell, hone⟩ := storable_cell hv2 hst
        have hs : szOf P t = some 1 := by simpa [chkStore] using ht
        refine fin hs ex (by rw [hcell]; rfl) (by rw [hcell]; intro z hz; simp at hz; rw [hz]; exact hone) (fun j hj => ?_) (fun j hj => ?_) _ hK ?_
        · obtain ⟨z, hz, _⟩ := hobj (off + j) (by omega)
          exact ⟨z, by rw [Nat.add_assoc]; exact hz⟩
        · obtain ⟨z, _, hz, _⟩ := hobj (off + j) (by omega)
          rw [Nat.add_assoc]; exact hz
        · have := wr_obj h hget (off := off) [val σ y'] [a.eval y] rfl (by simp; omega) (fun j hj => by
            have : j = 0 := by simp at hj; omega
            subst this; exact hv2)
          rw [hcell]
          simp only [LH.sets]
          have e2 : cs.take off ++ [val σ y'] ++ cs.drop (off + [val σ y'].length) = cs.set off (val σ y') := by
            rw [List.set_eq_take_append_cons_drop, if_pos hlt]; simp
          rw [e2] at this
          exact this
      | some n =>
        dsimp only at hw
        split at hw
        · rename_i vs e2
          obtain ⟨⟨hl, hle2, hone⟩, hK⟩ := hw
          rw [e2] at hv2
          obtain ⟨us, ey, hus, huv⟩ := vr_agg (avr_c hv2)
          have hs : szOf P t = some n := by simpa [chkStore] using ht
          have hcl : (a.eval y).cells = us := by rw [ey]; rfl
          refine fin hs ex (by rw [hcl]; omega) (by rw [hcl]; exact vr_one_cells hus huv hone) (fun j hj => ?_) (fun j hj => ?_) _ hK ?_
          · obtain ⟨z, hz, _⟩ := hobj (off + j) (by omega)
            exact ⟨z, by rw [Nat.add_assoc]; exact hz⟩
          · obtain ⟨z, _, hz, _⟩ := hobj (off + j) (by omega)
            rw [Nat.add_assoc]; exact hz
          · have := wr_obj h hget (off := off) (vs.map .c) us.toList (by simp [hus]) (by simp; omega) (fun j hj => by
              rw [getD_map_c]
              have := huv j (by simpa using hj)
              exact .c _ _ (by simpa [List.getD_eq_getElem?_getD, Array.getD_eq_getD_getElem?] using this))
            rw [hcl]
            simp only [LH.sets]
            simp only [List.length_map, hl] at this
            exact this
        · exact hw.elim
    · exact hw.elim
  · rename_i i idx f e1
    rw [e1] at hv1
    split at hw
    · rename_i e xs hget
      obtain ⟨hlt, hn, ex⟩ := eptrOK_row (avr_eptr hv1) (.inl hget)
      have hrow := h.hr.row _ _ _ hget
      unfold RowR at hrow
      rw [if_neg (by simp [hn])] at hrow
      obtain ⟨r1, r2, r3, r4⟩ := hrow
      have hmul : idx * e + e ≤ (ι i).cap * e := by
        have : (idx + 1) * e ≤ (ι i).cap * e := Nat.mul_le_mul_right _ (by omega)
        rw [Nat.add_mul] at this; omega
      split at hw
      · rename_i v e2
        obtain ⟨hfe, hone, hK⟩ := hw
        rw [e2] at hv2
        obtain ⟨hcell, hone'⟩ := (avr_c hv2).oneCell hone
        have hs : szOf P t = some 1 := by simpa [chkStore] using ht
        have hwf := r2 _ (getD_mem hlt)
        refine fin hs ex (by rw [hcell]; rfl) (by rw [hcell]; intro z hz; simp at hz; rw [hz]; exact hone') (fun j hj => ?_) (fun j hj => ?_) _ hK ?_
        · obtain ⟨z, hz, _⟩ := r4 idx f hlt hfe
          have : j = 0 := by omega
          subst this
          exact ⟨z, hz⟩
        · have : j = 0 := by omega
          subst this
          exact (r3 (idx * e + f) (by omega)).2
        · have hsc := setC_spec hwf hfe hone
          have := wr_row h hget hn hlt (f := f) [a.eval y] (by simp; omega) (setC (xs.getD idx .undef) f v) hsc.1
            (fun q hq1 hq2 => by
              have : q = f := by simp at hq2; omega
              subst this
              rw [hsc.2]
              have hfl : q < (xs.getD idx .undef).cells.length := by rw [hwf.1]; exact hfe
              rw [getD_set_self _ hfl, Nat.sub_self]
              exact avr_c hv2)
            (fun q hq1 hq2 => by
              rw [hsc.2]
              have : f ≠ q := by simp at hq1; omega
              rw [getD_set_ne _ this])
          rw [hcell]
          exact this
      · rename_i n vs e2
        obtain ⟨⟨hl, rfl, rfl, hone⟩, hK⟩ := hw
        rw [e2] at hv2
        obtain ⟨us, ey, hus, huv⟩ := vr_agg (avr_c hv2)
        have hs : szOf P t = some n := by simpa [chkStore] using ht
        have hcl : (a.eval y).cells = us := by rw [ey]; rfl
        refine fin hs ex (by rw [hcl]; omega) (by rw [hcl]; exact vr_one_cells hus huv hone) (fun j hj => ?_) (fun j hj => ?_) _ hK ?_
        · obtain ⟨z, hz, _⟩ := r4 idx j hlt hj
          exact ⟨z, by rw [← hz]; congr 2; omega⟩
        · have := (r3 (idx * n + j) (by omega)).2
          rw [← this]; congr 2; omega
        · have := wr_row h hget hn hlt (f := 0) us.toList (by simp; omega) (.agg vs) ⟨hl, hone⟩
            (fun q hq1 hq2 => by
              have := huv q (by simp at hq2; omega)
              simpa [CV.cells, List.getD_eq_getElem?_getD, Array.getD_eq_getD_getElem?] using this)
            (fun q hq1 hq2 => by simp at hq1; omega)
          rw [hcl]
          exact this
      · exact hw.elim
    · exact hw.elim
  · exact hw.elim
end
section
variable {P : Program} {C : Ctx} {ι : Nat → Loc} {S : Nat → Nat → Prop} {σ : Slots} {H : LH} {a : Act} {w : World} {o : Oper} {K : AV → List (Nat × LObj) → Prop} {g : Prop} {u : Nat}
theorem rowNew {w' : World} {S : Nat → Nat → Prop} {cells : Array Value} {t : TypeId} {fz : Nat × Nat} (hh : w'.heap = w.heap.push (.cells cells t fz)) {e : Nat} {xs : List CV} {cap : Nat}
    (hcap : xs.length ≤ cap) (hwf : ∀ x ∈ xs, x.wf e) (hsz : cap * e ≤ cells.size) (hfz : fz = (0, 0) ∨ cap * e ≤ fz.1)
    (hv : ∀ i j, i < xs.length → j < e → VR w S ((xs.getD i .undef).cells.getD j .undef) (cells.getD (i * e + j) Go.undef)) :
    RowR ⟨w.heap.size, 0, cap, false⟩ S w' e xs := by
  unfold RowR
  rw [if_neg (by simp)]
  refine ⟨hcap, hwf, fun k hk => ?_, fun i j hi hj => ?_⟩
  · have hk : k < cap * e := hk
    simp only [Nat.zero_add]
    refine ⟨?_, ?_⟩
    · rw [cell_new hh k]
      have : k < cells.size := by omega
      exact ⟨_, Array.getElem?_eq_getElem this⟩
    · simp only [World.frozen?, hh, Array.getElem?_push_size]
      obtain ⟨lo, hi⟩ := fz
      rcases hfz with hfz | hfz
      · injection hfz with h1 h2
        subst h1; subst h2
        simp
      · have : ¬ lo ≤ k := by simp only at hfz; omega
        simp [this]
  · have hlt : i * e + j < cells.size := by
      have : (i + 1) * e ≤ cap * e := Nat.mul_le_mul_right _ (by omega)
      rw [Nat.add_mul] at this
      omega
    refine ⟨cells.getD (i * e + j) Go.undef, ?_, (hv i j hi hj).mono fun b p x hs hx => ⟨hs, cell_push hh hx⟩⟩
    simp only [Nat.zero_add]
    rw [cell_new hh]
    simp [hlt]
theorem mk_row (h : R C ι S σ H a w) (hf : fresh H u) {w' : World} {cells : Array Value} {t : TypeId} {fz : Nat × Nat} (hh : w'.heap = w.heap.push (.cells cells t fz))
    (ho : w'.os = w.os) (ht : w'.tape = w.tape) (hp : w'.output = w.output) {e : Nat} {xs : List CV} {cap : Nat}
    (hcap : xs.length ≤ cap) (hwf : ∀ x ∈ xs, x.wf e) (hsz : cap * e ≤ cells.size) (hfz : fz = (0, 0) ∨ cap * e ≤ fz.1)
    (hv : ∀ i j, i < xs.length → j < e → VR w S ((xs.getD i .undef).cells.getD j .undef) (cells.getD (i * e + j) Go.undef)) :
    ∃ ι', R C ι' S σ (LH.sets H [(64 * u, .row e xs)]) a w' ∧ AVR ι' (LH.sets H [(64 * u, .row e xs)]) S w' (.osl (64 * u) 0 xs.length) (.slice (some ⟨w.heap.size, 0, none⟩) xs.length cap) := by
  obtain ⟨hn, hlt⟩ := fresh_none hf (k := 0) (by omega)
  rw [Nat.add_zero] at hn hlt
  have hget : LH.get (LH.set H (64 * u) (.row e xs)) (64 * u) = some (.row e xs) := by rw [LH.get_set, if_pos rfl]
  refine ⟨updL ι (64 * u) ⟨w.heap.size, 0, cap, false⟩, ?_, .osl _ _ _ _ ?_⟩
  · refine h.new (64 * u) hn hlt ⟨w.heap.size, 0, cap, false⟩ (fun _ => rfl) _ (.row e xs) (by simp) (.inl hh) ho ht hp ?_
    unfold NewAt
    rw [hget, updL_same]
    exact rowNew hh hcap hwf hsz hfz hv
  · unfold OslOK
    simp only [LH.sets]
    rw [hget]
    refine ⟨by simp, ?_⟩
    rw [updL_same]
    unfold SliceAt
    rw [if_neg (by simp)]
    left
    simp
def listOK : Nat → List (Nat × Operand) → List Opd → Bool
  | _, [], [] => true
  | k, (i, x) :: l, y :: l' => i == k && chkOpd x y && listOK (k + 1) l l'
  | _, _, _ => false
def chkBsl (P : Program) (t : TypeId) (len : Nat) (esz : Nat) (ps : List (Nat × Operand)) (ps' : List Opd) : Bool :=
  match P.underlying t with
  | some (.slice e) =>
    match P.info? e with
    | some ie => ie.zero.isSome && ie.size == esz && decide (0 < esz) && len == ps'.length && decide (0 < len) && decide (len * esz ≤ 2 ^ 24) && listOK 0 ps ps'
    | none => false
  | _ => false
theorem listOK_spec (h : R C ι S σ H a w) : ∀ (k : Nat) (ps : List (Nat × Operand)) (ps' : List Opd) (vs : List CV), listOK k ps ps' = true → ps'.map (val σ) = vs.map .c →
    ∃ us : List Value, us.length = vs.length ∧ (ps.map fun x => (x.1, a.eval x.2)) = (us.zipIdx k).map (fun x => (x.2, x.1)) ∧ ∀ i, i < vs.length → VR w S (vs.getD i .undef) (us.getD i Go.undef)
  | k, [], [], vs, _, hv => by
    have : vs = [] := by cases vs with | nil => rfl | cons => simp at hv
    subst this
    exact ⟨[], rfl, rfl, fun i hi => by simp at hi⟩
  | k, (i, x) :: l, y :: l', vs, hp, hv => by
    simp only [listOK, Bool.and_eq_true, beq_iff_eq] at hp
    obtain ⟨⟨rfl, hc⟩, hr⟩ := hp
    cases vs with
    | nil => simp at hv
    | cons v vs =>
      simp only [List.map_cons, List.cons.injEq] at hv
      obtain ⟨us, h1, h2, h3⟩ := listOK_spec h (i + 1) l l' vs hr hv.2
      have hx := ev h hc
      rw [hv.1] at hx
      refine ⟨a.eval x :: us, by simp [h1], by simp [List.zipIdx_cons, h2], fun j hj => ?_⟩
      cases j with
      | zero => exact avr_c hx
      | succ j => exact h3 j (by simpa using hj)
theorem sum_const (c : Nat) : ∀ l : List Value, (l.map fun _ => c).sum = l.length * c
  | [] => by simp
  | x :: l => by rw [List.map_cons, List.sum_cons, sum_const c l, List.length_cons, Nat.add_mul]; omega
theorem res_bsl (h : R C ι S σ H a w) {t : TypeId} {len : Nat} {parts : Array (Nat × Operand)} {esz : Nat} {ps' : List Opd} (ho : o.op = .buildSlice t len parts) (hc : chkBsl P t len esz parts.toList ps' = true)
    (hw : opW P g σ H u (.bsl esz ps') K) : Res P C σ H a w o K := by
  obtain ⟨vs, hvs, ⟨hf, hwf⟩, hK⟩ := closedW_spec hw
  unfold chkBsl at hc
  split at hc
  · rename_i e hu
    split at hc
    · rename_i ie hie
      simp only [Bool.and_eq_true, beq_iff_eq, decide_eq_true_eq] at hc
      obtain ⟨⟨⟨⟨⟨⟨hz, rfl⟩, h0⟩, rfl⟩, hpos⟩, hsm⟩, hl⟩ := hc
      obtain ⟨us, hul, hparts, huv⟩ := listOK_spec h 0 _ _ vs hl hvs
      have hlen : ps'.length = vs.length := by have := congrArg List.length hvs; simpa using this
      obtain ⟨zv, hzv⟩ := Option.isSome_iff_exists.1 hz
      have hcs : ∀ x ∈ us, x.cells.size = ie.size := by
        intro x hx
        obtain ⟨i, hi, rfl⟩ := List.getElem_of_mem hx
        have hv := huv i (by omega)
        have hm := hwf _ (getD_mem (xs := vs) (i := i) (by omega))
        have := (hv.cells hm.2).1
        rw [hm.1.1] at this
        simpa [List.getD_eq_getElem?_getD, hi] using this
      have hfill := Great.fill_whole (s := ie.size) h0 us ((Array.range (ps'.length * ie.size)).map (zv.cells[· % zv.cells.size]!)) hcs (by simp [hlen, hul])
      have hrun := run_buildSlice (P := P) w t e ps'.length (parts.map fun (i, x) => (i, a.eval x)) _ ie zv hu hie hzv (by omega) (by have := Nat.mul_pos hpos h0; omega) (by
        rw [← hfill, ← hparts]; simp)
      have hflat := Great.flat_get h0 us hcs
      have hlenf : (us.flatMap fun v => v.cells.toList).length = us.length * ie.size := by
        rw [List.length_flatMap]
        have : us.map (fun v => v.cells.toList.length) = us.map (fun _ => ie.size) := List.map_congr_left (fun x hx => by simpa using hcs x hx)
        rw [this]; exact sum_const ie.size us
      obtain ⟨ι', hR, hv⟩ := mk_row (u := u) (cells := (us.flatMap fun v => v.cells.toList).toArray) (t := e) (fz := (0, 0)) h hf (w' := w.alloc (.cells (us.flatMap fun v => v.cells.toList).toArray e)) rfl rfl rfl rfl (e := ie.size) (xs := vs) (cap := vs.length)
        (Nat.le_refl _) (fun x hx => (hwf x hx).1) (by rw [List.size_toArray, hlenf, hul]; exact Nat.le_refl _) (.inl rfl) (fun i j hi hj => by
          have hv := huv i hi
          have hm := hwf _ (getD_mem (xs := vs) hi)
          have := (hv.cells hm.2).2 j (by rw [hm.1.1]; exact hj)
          have e1 : ((us.flatMap fun v => v.cells.toList).toArray).getD (i * ie.size + j) Go.undef = (us.getD i Go.undef).cells.getD j Go.undef := by
            have hfl := hflat (i * ie.size + j)
            have d1 : (i * ie.size + j) / ie.size = i := by rw [Nat.mul_comm, Nat.mul_add_div h0, Nat.div_eq_of_lt hj, Nat.add_zero]
            have d2 : (i * ie.size + j) % ie.size = j := by rw [Nat.mul_comm, Nat.mul_add_mod, Nat.mod_eq_of_lt hj]
            rw [d1, d2] at hfl
            have hiu : i < us.length := by omega
            rw [List.getElem?_eq_getElem hiu, Option.bind_some] at hfl
            have e2 : us.getD i Go.undef = us[i] := by simp [List.getD_eq_getElem?_getD, hiu]
            rw [e2]
            have e3 : ∀ (l : List Value) (k : Nat), l.toArray.getD k Go.undef = l[k]?.getD Go.undef := fun l k => by simp
            rw [e3, hfl]
            simp
          rw [e1]; exact this)
      refine ⟨_, _, _, ι', S, _, _, ?_, .inl rfl, hK, hR, hv⟩
      simp only [execOp, ho]
      refine runV ?_
      rw [hrun, hlen]
    · cases hc
  · cases hc
def chkMks (P : Program) (t : TypeId) (l c : Operand) (n : Nat) (z : CV) : Bool :=
  match P.underlying t with
  | some (.slice e) =>
    match P.info? e with
    | some ie =>
      match ie.zero with
      | some zv => decide (ie.size = 1) && decide (zv.cells.size = 1) && constOK (zv.cells.getD 0 Go.undef) z && decide (0 < n) && decide (n < 1000) && decide (ie.bytes < 1000) &&
        (match l, c with
         | .const (.int .i64 a), .const (.int .i64 b) => decide (a = n) && decide (b = n)
         | _, _ => false)
      | none => false
    | none => false
  | _ => false
theorem res_mks (h : R C ι S σ H a w) {t : TypeId} {l c : Operand} {n : Nat} {z : CV} (ho : o.op = .makeSlice t l c) (hc : chkMks P t l c n z = true)
    (hw : opW P g σ H u (.mks n z) K) : Res P C σ H a w o K := by
  obtain ⟨hf, hK⟩ := hw
  unfold chkMks at hc
  split at hc
  case h_2 => cases hc
  rename_i e hu
  split at hc
  case h_2 => cases hc
  rename_i ie hie
  split at hc
  case h_2 => cases hc
  rename_i zv hzv
  simp only [Bool.and_eq_true, decide_eq_true_eq] at hc
  obtain ⟨⟨⟨⟨⟨⟨hs, hz1⟩, hz⟩, hn⟩, hnb⟩, hb⟩, hlc⟩ := hc
  split at hlc
  case h_2 => cases hlc
  rename_i p q
  simp only [Bool.and_eq_true, decide_eq_true_eq] at hlc
  obtain ⟨rfl, rfl⟩ := hlc
  have hrun := run_makeSlice (P := P) w t e ie zv hu hie hzv .i64 .i64 (n : Int) (n : Int) (by omega) (by omega) (by rw [hs]; omega) (by
    have : (ie.bytes : Int) * n ≤ 1000 * 1000 := Int.mul_le_mul (by omega) (by omega) (by omega) (by omega)
    omega) (by omega)
  simp only [Int.toNat_natCast, hs, Nat.mul_one] at hrun
  have hone : z.one = true := constOK_one hz
  have hzl : z.cells.length = 1 := by rw [one_cells hone]; rfl
  obtain ⟨ι', hR, hv⟩ := mk_row (u := u) (cells := madeCells zv.cells n) (t := e) (fz := (0, 0)) h hf (w' := w.alloc (.cells (madeCells zv.cells n) e)) rfl rfl rfl rfl (e := 1) (xs := List.replicate n z) (cap := n)
    (by simp) (fun x hx => by
      have : x = z := List.eq_of_mem_replicate hx
      subst this
      exact ⟨hzl, fun c hc => by rw [one_cells hone] at hc; simp at hc; rw [hc]; exact hone⟩)
    (by rw [size_madeCells]; omega) (.inl rfl) (fun i j hi hj => by
      have hj0 : j = 0 := by omega
      subst hj0
      simp only [List.length_replicate] at hi
      have e1 : (List.replicate n z).getD i .undef = z := by simp [List.getD_eq_getElem?_getD, hi]
      rw [e1, one_cells hone, Nat.mul_one, Nat.add_zero]
      have e2 : (madeCells zv.cells n).getD i Go.undef = zv.cells.getD 0 Go.undef := by
        simp [madeCells, hi, hz1, Nat.mod_one]
      rw [e2]
      exact constOK_vr hz)
  have hv' : AVR ι' (LH.sets H [(64 * u, .row 1 (List.replicate n z))]) S (w.alloc (.cells (madeCells zv.cells n) e)) (.osl (64 * u) 0 n) (.slice (some ⟨w.heap.size, 0, none⟩) n n) := by simpa using hv
  refine ⟨_, _, _, ι', S, _, _, ?_, .inl rfl, hK, hR, hv'⟩
  simp only [execOp, ho]
  exact runV hrun
theorem choose_append (need old : Nat) (e : TypeId) : (choose (.appendCap need old e)).run P w = .ok (grownCap w need old e) w.drew := by
  simp [choose, Sem.run, Question.forced, grownCap]
theorem run_app_room {t xt ty e : TypeId} {i : TypeInfo} (ht : P.underlying t = some (.slice e)) (hi : P.info? e = some i) (hx : (∃ e2, P.underlying xt = some (.slice e2)) ∨ P.underlying xt = some .string)
    (p : Option Addr) (sLen sCap n : Nat) (x : Value) (hn : (Builtin.lenOf x).run P w = .ok n w) (news : Array Value) (hf : (Builtin.firstCells i.size n x).run P w = .ok news w)
    (hroom : sLen + n ≤ sCap) {w' : World} (hst : ∀ ad, p = some ad → (storeCells (ad.add (sLen * i.size)) news.toList).run P w = .ok () w') (hp : p = none → w' = w) :
    (Builtin.append_ #[t, xt] ty #[.slice p sLen sCap, x]).run P w = .ok (.slice p (sLen + n) sCap) w' := by
  rcases hx with ⟨e2, hd⟩ | hd
  all_goals
    cases p with
    | none =>
      have := hp rfl
      subst this
      simp [Builtin.append_, run_underlying ht, run_underlying hd, sizeOf, typeInfo, hi, hn, hf, hroom, pure, Sem.run]
    | some ad =>
      have hst := hst ad rfl
      simp [Builtin.append_, run_underlying ht, run_underlying hd, sizeOf, typeInfo, hi, hn, hf, hroom, hst, pure, Sem.run]
theorem run_app_grow {t xt ty e : TypeId} {i : TypeInfo} {z : Value} (ht : P.underlying t = some (.slice e)) (hi : P.info? e = some i) (hzv : i.zero = some z) (hx : (∃ e2, P.underlying xt = some (.slice e2)) ∨ P.underlying xt = some .string)
    (p : Option Addr) (sLen sCap n : Nat) (x : Value) (hn : (Builtin.lenOf x).run P w = .ok n w) (olds news : Array Value)
    (ho : (Builtin.firstCells i.size sLen (.slice p sLen sCap)).run P w.drew = .ok olds w.drew) (hf : (Builtin.firstCells i.size n x).run P w.drew = .ok news w.drew)
    (hroom : sCap < sLen + n) (h63 : ¬ (9223372036854775807 < ((sLen + n : Nat) : Int))) (hfit : Builtin.nextslicecap (sLen + n) sCap * i.bytes ≤ 281474976710656) :
    (Builtin.append_ #[t, xt] ty #[.slice p sLen sCap, x]).run P w = .ok (.slice (some ⟨w.heap.size, 0, none⟩) (sLen + n) (grownCap w (sLen + n) sCap e))
      (w.drew.alloc (.cells (olds ++ news ++ Builtin.zeroCells z.cells (grownCap w (sLen + n) sCap e - (sLen + n))) e)) := by
  have hroom' : ¬ sLen + n ≤ sCap := by omega
  have hfit' : ¬ 281474976710656 < Builtin.nextslicecap (sLen + n) sCap * i.bytes := by omega
  have h63' : ¬ (9223372036854775807 : Int) < (sLen : Int) + (n : Int) := by omega
  have hask : ∀ b w', (askRoom b).run P w' = .ok () w' := fun b w' => by unfold askRoom; split <;> simp [mark, pure, Sem.run]
  rcases hx with ⟨e2, hd⟩ | hd
  all_goals
    simp [Builtin.append_, run_underlying ht, run_underlying hd, sizeOf, typeInfo, hi, hn, hf, ho, hroom', hfit', h63', hask, zeroValue, hzv, newRow, newObj, pure, Sem.run, choose, Question.forced, grownCap]
theorem cell_heap {w w' : World} (hh : w'.heap = w.heap) (x : Addr) : w'.cell? x = w.cell? x := by simp [World.cell?, hh]
theorem load_list {w : World} {b o n : Nat} (xs : List Value) (hl : xs.length = n) (hc : ∀ k, k < n → w.cell? ⟨b, o + k, none⟩ = some (xs.getD k Go.undef)) {w' : World} (hh : w'.heap = w.heap) :
    (loadCells ⟨b, o, none⟩ n).run P w' = .ok xs.toArray w' := by
  have := run_loadCells_list (P := P) w' ⟨b, o, none⟩ xs (fun j v hv => by
    have hj : j < xs.length := (List.getElem?_eq_some_iff.1 hv).1
    rw [cell_heap hh, addr_add, hc j (by omega), List.getD_eq_getElem?_getD, hv]; rfl)
  rw [hl] at this
  exact this
theorem grid {n e : Nat} (he : 0 < e) {Q : Nat → Nat → Value → Prop} (h : ∀ i j, i < n → j < e → ∃ y, Q i j y) :
    ∃ ys : List Value, ys.length = n * e ∧ ∀ i j, i < n → j < e → Q i j (ys.getD (i * e + j) Go.undef) := by
  obtain ⟨ys, hl, hy⟩ := exists_list (n := n * e) (Q := fun k y => Q (k / e) (k % e) y) (fun k hk => h _ _ ((Nat.div_lt_iff_lt_mul he).2 hk) (Nat.mod_lt _ he))
  refine ⟨ys, hl, fun i j hi hj => ?_⟩
  have hlt : i * e + j < n * e := by
    have : (i + 1) * e ≤ n * e := Nat.mul_le_mul_right _ hi
    rw [Nat.add_mul] at this; omega
  have := hy (i * e + j) hlt
  have d1 : (i * e + j) / e = i := by rw [Nat.mul_comm, Nat.mul_add_div he, Nat.div_eq_of_lt hj, Nat.add_zero]
  have d2 : (i * e + j) % e = j := by rw [Nat.mul_comm, Nat.mul_add_mod, Nat.mod_eq_of_lt hj]
  rw [d1, d2] at this
  exact this
theorem ungrid {n e : Nat} (he : 0 < e) {Q : Nat → Prop} (h : ∀ i j, i < n → j < e → Q (i * e + j)) : ∀ k, k < n * e → Q k := by
  intro k hk
  have := h (k / e) (k % e) ((Nat.div_lt_iff_lt_mul he).2 hk) (Nat.mod_lt _ he)
  rwa [Nat.mul_comm, Nat.div_add_mod] at this
structure Items (P : Program) (S : Nat → Nat → Prop) (w : World) (e : Nat) (x : Value) (ys : List CV) (news : List Value) : Prop where
  wf : ∀ y ∈ ys, y.wf e
  len : news.length = ys.length * e
  vr : ∀ i j, i < ys.length → j < e → VR w S ((ys.getD i .undef).cells.getD j .undef) (news.getD (i * e + j) Go.undef)
  one : ∀ v ∈ news, v.oneCell' = true
  lenOf : (Builtin.lenOf x).run P w = .ok ys.length w
  first : ∀ w' : World, w'.heap = w.heap → (Builtin.firstCells e ys.length x).run P w' = .ok news.toArray w'
theorem items_one {w : World} {e : Nat} (he : 0 < e) {ys : List CV} {news : List Value} (hwf : ∀ y ∈ ys, y.wf e) (hl : news.length = ys.length * e)
    (hv : ∀ i j, i < ys.length → j < e → VR w S ((ys.getD i .undef).cells.getD j .undef) (news.getD (i * e + j) Go.undef)) : ∀ v ∈ news, v.oneCell' = true := by
  intro v hv1
  obtain ⟨k, hk, rfl⟩ := List.getElem_of_mem hv1
  refine ungrid (n := ys.length) he (Q := fun k => ∀ hk : k < news.length, (news[k]).oneCell' = true) (fun i j hi hj hk => ?_) k (by omega) hk
  have h1 := hv i j hi hj
  have e1 : news.getD (i * e + j) Go.undef = news[i * e + j] := by simp [List.getD_eq_getElem?_getD, hk]
  rw [e1] at h1
  have hw := hwf _ (getD_mem hi)
  exact (h1.oneCell (hw.2 _ (getD_mem (xs := (ys.getD i .undef).cells) (by rw [hw.1]; exact hj)))).2
theorem items_sl {w : World} {e : Nat} (he : 0 < e) {xs : List CV} {x : Value} (hx : (xs = [] ∧ ∃ p c, x = .slice p 0 c) ∨ ∃ b o c, x = .slice (some ⟨b, o, none⟩) xs.length c ∧ (∀ y ∈ xs, y.wf e) ∧
      ∀ i j, i < xs.length → j < e → ∃ y, w.cell? ⟨b, o + (i * e + j), none⟩ = some y ∧ VR w S ((xs.getD i .undef).cells.getD j .undef) y) :
    ∃ news, Items P S w e x xs news := by
  rcases hx with ⟨rfl, p, c, rfl⟩ | ⟨b, o, c, rfl, hwf, hc⟩
  · refine ⟨[], fun y hy => (by cases hy), (by simp), fun i j hi => (by simp at hi), fun v hv => (by cases hv), by simp [Builtin.lenOf, pure, Sem.run], fun w' _ => ?_⟩
    cases p <;> simp [Builtin.firstCells, loadCells, loadCellsFrom, pure, Sem.run]
  · obtain ⟨news, hl, hq⟩ := grid (n := xs.length) he (Q := fun i j y => w.cell? ⟨b, o + (i * e + j), none⟩ = some y ∧ VR w S ((xs.getD i .undef).cells.getD j .undef) y) hc
    have hcell : ∀ k, k < xs.length * e → w.cell? ⟨b, o + k, none⟩ = some (news.getD k Go.undef) := ungrid he (fun i j hi hj => (hq i j hi hj).1)
    refine ⟨news, hwf, hl, fun i j hi hj => (hq i j hi hj).2, items_one he hwf hl (fun i j hi hj => (hq i j hi hj).2), by simp [Builtin.lenOf, pure, Sem.run], fun w' hh => ?_⟩
    simp only [Builtin.firstCells]
    exact load_list news hl hcell hh
theorem items_str {w : World} (s : ByteArray) : ∃ news, Items P S w 1 (.string s) (strCells s) news := by
  have hlen : (strCells s).length = s.size := by simp [strCells]
  have hv : ∀ i j, i < (strCells s).length → j < 1 → VR w S (((strCells s).getD i .undef).cells.getD j .undef) (((s.data.toList.map fun b => Value.int .u8 b.toNat)).getD (i * 1 + j) Go.undef) := by
    intro i j hi hj
    have : j = 0 := by omega
    subst this
    have hi' : i < s.data.size := by rw [hlen] at hi; exact hi
    simp only [strCells, List.getD_eq_getElem?_getD, List.getElem?_map, Nat.mul_one, Nat.add_zero, Array.getElem?_toList]
    rw [Array.getElem?_eq_getElem hi']
    exact .int _ _
  have hwf : ∀ y ∈ strCells s, y.wf 1 := by
    intro y hy
    obtain ⟨b, _, rfl⟩ := List.mem_map.1 hy
    exact ⟨rfl, fun c hc => by simp [u8, CV.cells] at hc; rw [hc]; rfl⟩
  refine ⟨s.data.toList.map fun b => .int .u8 b.toNat, hwf, by simp [hlen], hv, items_one (by omega) hwf (by simp [hlen]) hv, by rw [hlen]; simp [Builtin.lenOf, pure, Sem.run], fun w' hh => ?_⟩
  rw [hlen]
  simp only [Builtin.firstCells]
  have : s.extract 0 s.size = s := by simp
  rw [this, ← Array.toList_map, Array.toArray_toList]
  simp [pure, Sem.run]
theorem items_spec (h : R C ι S σ H a w) {v : AV} {x : Value} {str : Bool} {e : Nat} (he : 0 < e) {F : List CV → Prop} (hv : AVR ι H S w v x) (hw : elemsW H str e v F) :
    ∃ ys news, F ys ∧ Items P S w e x ys news := by
  by_cases hs : ∃ s, v = .c (.str s)
  · obtain ⟨s, rfl⟩ := hs
    obtain ⟨⟨_, rfl⟩, hF⟩ := hw
    obtain ⟨news, hn⟩ := items_str (P := P) (S := S) (w := w) s
    rw [avr_str hv]
    exact ⟨_, _, hF, hn⟩
  · have hw' : elemsW H false e v F := by
      unfold elemsW at hw ⊢
      split at hw
      · exact hw
      · exact hw
      · exact absurd ⟨_, rfl⟩ hs
      · exact hw
      · exact hw.elim
    obtain ⟨xs, hF, hx⟩ := elems_spec h hv hw'
    obtain ⟨news, hn⟩ := items_sl (P := P) he hx
    exact ⟨xs, news, hF, hn⟩
theorem rowApp {w w' : World} {S : Nat → Nat → Prop} {e : Nat} (he : 0 < e) {xs ys : List CV} {olds news zs : List Value} {cap : Nat} {t : TypeId} (hh : w'.heap = w.heap.push (.cells (olds.toArray ++ news.toArray ++ zs.toArray) t (0, 0)))
    (hcap : (xs ++ ys).length ≤ cap) (hsz : cap * e ≤ (olds ++ news ++ zs).length) (hxw : ∀ x ∈ xs, x.wf e) (hyw : ∀ x ∈ ys, x.wf e) (hol : olds.length = xs.length * e) (hnl : news.length = ys.length * e)
    (hxv : ∀ i j, i < xs.length → j < e → VR w S ((xs.getD i .undef).cells.getD j .undef) (olds.getD (i * e + j) Go.undef))
    (hyv : ∀ i j, i < ys.length → j < e → VR w S ((ys.getD i .undef).cells.getD j .undef) (news.getD (i * e + j) Go.undef)) :
    RowR ⟨w.heap.size, 0, cap, false⟩ S w' e (xs ++ ys) := by
  refine rowNew hh hcap (fun x hx => ?_) (by simpa [Nat.add_assoc] using hsz) (.inl rfl) (fun i j hi hj => ?_)
  · rcases List.mem_append.1 hx with hx | hx
    · exact hxw x hx
    · exact hyw x hx
  · have e1 : ∀ k, (olds.toArray ++ news.toArray ++ zs.toArray).getD k Go.undef = (olds ++ news ++ zs).getD k Go.undef := fun k => by simp [List.getD_eq_getElem?_getD]
    rw [e1]
    by_cases hi1 : i < xs.length
    · have hlt : i * e + j < olds.length := by
        have : (i + 1) * e ≤ xs.length * e := Nat.mul_le_mul_right _ hi1
        rw [Nat.add_mul] at this; omega
      have := hxv i j hi1 hj
      simp only [List.getD_eq_getElem?_getD] at this ⊢
      rw [List.append_assoc, List.getElem?_append_left hlt, List.getElem?_append_left hi1]
      exact this
    · have hi2 : i - xs.length < ys.length := by simp at hi; omega
      have hk : i * e + j = olds.length + ((i - xs.length) * e + j) := by
        rw [hol, ← Nat.add_assoc, ← Nat.add_mul]; congr 2; omega
      have hlt : (i - xs.length) * e + j < news.length := by
        have : (i - xs.length + 1) * e ≤ ys.length * e := Nat.mul_le_mul_right _ hi2
        rw [Nat.add_mul] at this; omega
      have := hyv (i - xs.length) j hi2 hj
      simp only [List.getD_eq_getElem?_getD] at this ⊢
      have e2 : (xs ++ ys)[i]? = ys[i - xs.length]? := List.getElem?_append_right (by omega)
      have e3 : (olds ++ news ++ zs)[olds.length + ((i - xs.length) * e + j)]? = news[(i - xs.length) * e + j]? := by
        rw [List.append_assoc, List.getElem?_append_right (by omega), Nat.add_sub_cancel_left, List.getElem?_append_left hlt]
      rw [hk, e2, e3]
      exact this
def chkApp (P : Program) (t xt : TypeId) (esz bytes : Nat) (str : Bool) : Bool :=
  match P.underlying t with
  | some (.slice e) =>
    match P.info? e with
    | some i => (match i.zero with | some z => z.cells.size == esz | none => false) && i.size == esz && decide (0 < esz) && i.bytes == bytes && decide (0 < bytes) &&
      (match P.underlying xt with | some (.slice _) => !str | some .string => str | _ => false)
    | none => false
  | _ => false
theorem res_app (h : R C ι S σ H a w) {x y : Operand} {x' y' : Opd} {t xt : TypeId} {esz bytes : Nat} {str : Bool} (ho : o.op = .call { callee := .builtin .append, args := #[x, y], argTypes := #[t, xt] })
    (h1 : chkOpd x x' = true) (h2 : chkOpd y y' = true) (hc : chkApp P t xt esz bytes str = true)
    (hw : opW P g σ H u (.app x' y' esz bytes str) K) : Res P C σ H a w o K := by
  unfold chkApp at hc
  split at hc
  case h_2 => cases hc
  rename_i e hu
  split at hc
  case h_2 => cases hc
  rename_i i hi
  simp only [Bool.and_eq_true, beq_iff_eq, decide_eq_true_eq] at hc
  obtain ⟨⟨⟨⟨⟨hz, rfl⟩, he⟩, rfl⟩, hb⟩, hxt⟩ := hc
  have hx : (∃ e2, P.underlying xt = some (.slice e2)) ∨ P.underlying xt = some .string := by
    split at hxt
    · rename_i e2 h2; exact .inl ⟨e2, h2⟩
    · rename_i h2; exact .inr h2
    · cases hxt
  split at hz
  case h_2 => cases hz
  rename_i z hzv
  have hzs : z.cells.size = i.size := by simpa using hz
  have hv1 := ev h h1
  have hv2 := ev h h2
  simp only [opW] at hw
  obtain ⟨ys, news, hw, hit⟩ := items_spec (P := P) h he hv2 hw
  -- where a new row is made
  have grow : ∀ (p : Option Addr) (cap : Nat) (xs : List CV) (olds : List Value), Items P S w i.size (.slice p xs.length cap) xs olds → cap < xs.length + ys.length → (xs.length + ys.length) * i.bytes ≤ 140737488355328 →
      a.eval x = .slice p xs.length cap → ∃ (w' : World) (nc : Nat) (ob : Obj), (execOp a.eval o).run P w = .ok (.value (.slice (some ⟨w.heap.size, 0, none⟩) (xs.length + ys.length) nc)) w' ∧
        w'.heap = w.heap.push ob ∧ w'.os = w.os ∧ w'.tape = w.tape ∧ w'.output = w.output ∧ RowR ⟨w.heap.size, 0, nc, false⟩ S w' i.size (xs ++ ys) := by
    intro p cap xs olds hol hlt hby ex
    have hge := grownCap_ge w (xs.length + ys.length) cap e
    have h63 : ¬ (9223372036854775807 < ((xs.length + ys.length : Nat) : Int)) := by
      have : (xs.length + ys.length) * 1 ≤ (xs.length + ys.length) * i.bytes := Nat.mul_le_mul_left _ hb
      omega
    have hr := run_app_grow (P := P) (w := w) (ty := o.type) hu hi hzv hx p xs.length cap ys.length (a.eval y) hit.lenOf olds.toArray news.toArray (hol.first w.drew rfl) (hit.first w.drew rfl) hlt h63 (growslice_fits hlt hby)
    refine ⟨w.drew.alloc (.cells (olds.toArray ++ news.toArray ++ Builtin.zeroCells z.cells (grownCap w (xs.length + ys.length) cap e - (xs.length + ys.length))) e), grownCap w (xs.length + ys.length) cap e,
      .cells (olds.toArray ++ news.toArray ++ Builtin.zeroCells z.cells (grownCap w (xs.length + ys.length) cap e - (xs.length + ys.length))) e, ?_, rfl, rfl, rfl, rfl, ?_⟩
    · simp only [execOp, ho]
      simp only [resolve, invoke, builtin, Sem.run_bind, Sem.run_pure, Result.andThen_ok, List.map_toArray, List.map_cons, List.map_nil, ex, hr]
    · refine rowApp (zs := (Builtin.zeroCells z.cells (grownCap w (xs.length + ys.length) cap e - (xs.length + ys.length))).toList) he (w := w) (t := e) ?_ (by rw [List.length_append]; exact hge) ?_ hol.wf hit.wf hol.len hit.len hol.vr hit.vr
      · simp
        rfl
      · simp only [List.length_append, hol.len, hit.len, Array.length_toList, size_zeroCells, hzs, ← Nat.add_mul]
        exact Nat.mul_le_mul_right _ (by omega)
  have room : ∀ (p : Option Addr) (n cap : Nat), a.eval x = .slice p n cap → n + ys.length ≤ cap → ∀ w' : World, (∀ ad, p = some ad → (storeCells (ad.add (n * i.size)) news).run P w = .ok () w') → (p = none → w' = w) →
      (execOp a.eval o).run P w = .ok (.value (.slice p (n + ys.length) cap)) w' := by
    intro p n cap ex hle w' hst hp
    have hr := run_app_room (P := P) (w := w) (ty := o.type) hu hi hx p n cap ys.length (a.eval y) hit.lenOf news.toArray (hit.first w rfl) hle (w' := w') (by simpa using hst) hp
    simp only [execOp, ho]
    simp only [resolve, invoke, builtin, Sem.run_bind, Sem.run_pure, Result.andThen_ok, List.map_toArray, List.map_cons, List.map_nil, ex, hr]
  have n0 : ys.length = 0 → ys = [] ∧ news = [] := fun h0 => by
    have h1 : ys = [] := List.eq_nil_of_length_eq_zero h0
    have h2 := hit.len
    rw [h0, Nat.zero_mul] at h2
    exact ⟨h1, List.eq_nil_of_length_eq_zero h2⟩
  split at hw
  · rename_i e1
    obtain ⟨⟨hf, hby⟩, hK⟩ := hw
    rw [e1] at hv1
    have ex := avr_nilsl hv1
    by_cases h0 : ys.length = 0
    · obtain ⟨rfl, rfl⟩ := n0 h0
      obtain ⟨hn, hlt⟩ := fresh_none hf (k := 0) (by omega)
      rw [Nat.add_zero] at hn hlt
      have hget : LH.get (LH.set H (64 * u) (.row i.size [])) (64 * u) = some (.row i.size []) := by rw [LH.get_set, if_pos rfl]
      refine ⟨_, _, w, updL ι (64 * u) ⟨0, 0, 0, true⟩, S, _, _, room none 0 0 ex (by simp) w (by simp) (fun _ => rfl), .inl rfl, hK, ?_, .osl _ _ _ _ ?_⟩
      · refine h.new (64 * u) hn hlt ⟨0, 0, 0, true⟩ (by simp) (.cells #[] 0) (.row i.size []) (fun _ => ⟨_, _, rfl⟩) (.inr ⟨rfl, rfl⟩) rfl rfl rfl ?_
        unfold NewAt
        rw [hget, updL_same]
        show RowR _ _ _ _ _
        unfold RowR
        rw [if_pos rfl]
      · unfold OslOK
        simp only [LH.sets]
        rw [hget]
        refine ⟨by simp, ?_⟩
        rw [updL_same]
        unfold SliceAt
        rw [if_pos rfl]
        exact ⟨rfl, rfl, _, rfl⟩
    · obtain ⟨news0, hol⟩ := items_sl (P := P) (S := S) (w := w) he (xs := []) (x := .slice none 0 0) (.inl ⟨rfl, _, _, rfl⟩)
      obtain ⟨w', nc, ob, hrun, hh, g1, g2, g3, hrow⟩ := grow none 0 [] news0 hol (by simp; omega) (by simpa using hby) ex
      obtain ⟨hn, hlt⟩ := fresh_none hf (k := 0) (by omega)
      rw [Nat.add_zero] at hn hlt
      have hget : LH.get (LH.set H (64 * u) (.row i.size ys)) (64 * u) = some (.row i.size ys) := by rw [LH.get_set, if_pos rfl]
      refine ⟨_, _, w', updL ι (64 * u) ⟨w.heap.size, 0, nc, false⟩, S, _, _, hrun, .inl rfl, hK, ?_, .osl _ _ _ _ ?_⟩
      · refine h.new (64 * u) hn hlt ⟨w.heap.size, 0, nc, false⟩ (fun _ => rfl) ob (.row i.size ys) (by simp) (.inl hh) g1 g2 g3 ?_
        unfold NewAt
        rw [hget, updL_same]
        exact hrow
      · unfold OslOK
        simp only [LH.sets]
        rw [hget]
        refine ⟨by simp, ?_⟩
        rw [updL_same]
        unfold SliceAt
        rw [if_neg (by simp)]
        left
        simp
  · rename_i id off len e1
    rw [e1] at hv1
    split at hw
    case h_2 => exact hw.elim
    rename_i e' xs hget
    obtain ⟨⟨hf, rfl, hby⟩, hK⟩ := hw
    obtain ⟨hn, hlt⟩ := fresh_none hf (k := 0) (by omega)
    rw [Nat.add_zero] at hn hlt
    obtain ⟨hle, hsl⟩ := oslOK_row (avr_osl hv1) (.inl hget)
    have hlen : ((xs.drop off).take len).length = len := by simp; omega
    have hrow := h.hr.row _ _ _ hget
    -- what is left to show, of where the new row lies
    have fin : ∀ (w' : World) (L : Loc) (ob : Obj) (v : Value), (execOp a.eval o).run P w = .ok (.value v) w' →
        ((L.isnil = false ∧ (ι id).isnil = false ∧ L.block = (ι id).block ∧ (∀ b, b ≠ (ι id).block → w'.heap[b]? = w.heap[b]?) ∧ w'.heap.size = w.heap.size) ∨
          (L.isnil = false ∧ L.block = w.heap.size ∧ w'.heap = w.heap.push ob) ∨ (L.isnil = true ∧ w'.heap = w.heap)) →
        w'.os = w.os → w'.tape = w.tape → w'.output = w.output → RowR L S w' i.size ((xs.drop off).take len ++ ys) → SliceAt L i.size 0 (len + ys.length) v → Res P C σ H a w o K := by
      intro w' L ob v hrun hc g1 g2 g3 hr hs
      have hget2 : LH.get (LH.set (LH.set H id .dead) (64 * u) (.row i.size ((xs.drop off).take len ++ ys))) (64 * u) = some (.row i.size ((xs.drop off).take len ++ ys)) := by rw [LH.get_set, if_pos rfl]
      refine ⟨_, _, w', updL ι (64 * u) L, S, _, _, hrun, .inl rfl, hK, ?_, .osl _ _ _ _ ?_⟩
      · refine h.move hget hn hlt L ob hc g1 g2 g3 ?_
        unfold NewAt
        rw [hget2, updL_same]
        exact hr
      · unfold OslOK
        simp only [LH.sets]
        rw [hget2]
        refine ⟨by rw [List.length_append, hlen]; omega, ?_⟩
        rw [updL_same]
        exact hs
    have viaGrow : ∀ (p : Option Addr) (cap : Nat) (olds : List Value), Items P S w i.size (.slice p len cap) ((xs.drop off).take len) olds → cap < len + ys.length → a.eval x = .slice p len cap → Res P C σ H a w o K := by
      intro p cap olds hol hc ex
      have hol' : Items P S w i.size (.slice p ((xs.drop off).take len).length cap) ((xs.drop off).take len) olds := by rw [hlen]; exact hol
      obtain ⟨w', nc, ob, hrun, hh, g1, g2, g3, hr⟩ := grow p cap _ olds hol' (by rw [hlen]; exact hc) (by rw [hlen]; exact hby) (by rw [hlen]; exact ex)
      rw [hlen] at hrun
      refine fin w' ⟨w.heap.size, 0, nc, false⟩ ob _ hrun (.inr (.inl ⟨rfl, rfl, hh⟩)) g1 g2 g3 hr ?_
      unfold SliceAt
      rw [if_neg (by simp)]
      left
      simp
    have viaNil : ∀ (p : Option Addr), a.eval x = .slice p 0 0 → len = 0 → Res P C σ H a w o K := by
      intro p ex hl0
      subst hl0
      by_cases h0 : ys.length = 0
      · obtain ⟨rfl, rfl⟩ := n0 h0
        refine fin w ⟨0, 0, 0, true⟩ (.cells #[] 0) _ (room p 0 0 ex (by simp) w (fun ad _ => rfl) (fun _ => rfl)) (.inr (.inr ⟨rfl, rfl⟩)) rfl rfl rfl ?_ ?_
        · unfold RowR
          rw [if_pos rfl]
          simp
        · unfold SliceAt
          rw [if_pos rfl]
          exact ⟨rfl, rfl, p, rfl⟩
      · obtain ⟨olds, hol⟩ := items_sl (P := P) (S := S) (w := w) he (xs := (xs.drop off).take 0) (x := .slice p 0 0) (.inl ⟨by simp, p, _, rfl⟩)
        exact viaGrow p 0 olds hol (by omega) ex
    unfold SliceAt at hsl
    split at hsl
    · obtain ⟨_, hl0, p, ex⟩ := hsl
      exact viaNil p ex hl0
    · rename_i hnil
      have hnil' : (ι id).isnil = false := by simpa using hnil
      rcases hsl with ex | ⟨hl0, p, ex⟩
      · unfold RowR at hrow
        rw [if_neg hnil] at hrow
        obtain ⟨r1, r2, r3, r4⟩ := hrow
        by_cases hroom : len + ys.length ≤ (ι id).cap - off
        · -- in place
          have hmul : off * i.size + (len * i.size + ys.length * i.size) ≤ (ι id).cap * i.size := by
            rw [← Nat.add_mul, ← Nat.add_mul]; exact Nat.mul_le_mul_right _ (by omega)
          have hcells : ∀ j, j < news.length → (∃ z, w.cell? ⟨(ι id).block, (ι id).off + off * i.size + len * i.size + j, none⟩ = some z) ∧ w.frozen? ⟨(ι id).block, (ι id).off + off * i.size + len * i.size + j, none⟩ = false := fun j hj => by
            rw [hit.len] at hj
            have := r3 (off * i.size + len * i.size + j) (by omega)
            have e2 : (ι id).off + off * i.size + len * i.size + j = (ι id).off + (off * i.size + len * i.size + j) := by omega
            rw [e2]; exact this
          have hst := run_storeCells_cells (P := P) (ι id).block ((ι id).off + off * i.size + len * i.size) news 0 w
            (fun j hj => by rw [Nat.add_zero]; obtain ⟨z, hz⟩ := (hcells j hj).1; rw [hz]; rfl) (fun j hj => by rw [Nat.add_zero]; exact (hcells j hj).2) hit.one
          rw [Nat.add_zero] at hst
          obtain ⟨z1, z2, z3, z4, z5⟩ := heap_setCells (ι id).block news ((ι id).off + off * i.size + len * i.size) w
          have hrun := room (some ⟨(ι id).block, (ι id).off + off * i.size, none⟩) len _ ex hroom (w.setCells (ι id).block ((ι id).off + off * i.size + len * i.size) news)
            (fun ad had => by injection had with had; rw [← had, addr_add]; exact hst) (by simp)
          have hwn : Owned ι H id := by unfold Owned; rw [hget]; exact hnil'
          refine fin _ ⟨(ι id).block, (ι id).off + off * i.size, (ι id).cap - off, false⟩ (.cells #[] 0) _ hrun (.inl ⟨rfl, hnil', rfl, fun b hb => z2 b hb, z1⟩) z3 z4 z5 ?_ ?_
          · have hcell := fun k => cell_setCells (w := w) (ι id).block ((ι id).off + off * i.size + len * i.size) news (fun j hj => (hcells j hj).1) k
            have views : ∀ b p x, S b p → w.cell? ⟨b, p, none⟩ = some x → S b p ∧ (w.setCells (ι id).block ((ι id).off + off * i.size + len * i.size) news).cell? ⟨b, p, none⟩ = some x := fun b p x hs hx =>
              ⟨hs, by rw [cell_block (z2 b (fun e => h.hr.disj id hwn (e ▸ hs)))]; exact hx⟩
            unfold RowR
            rw [if_neg (by simp)]
            refine ⟨by rw [List.length_append, hlen]; exact hroom, fun y hy => ?_, fun k hk => ?_, fun p q hp hq => ?_⟩
            · rcases List.mem_append.1 hy with hy | hy
              · exact r2 y (List.mem_of_mem_drop (List.mem_of_mem_take hy))
              · exact hit.wf y hy
            · have hk : k < ((ι id).cap - off) * i.size := hk
              have hsub : ((ι id).cap - off) * i.size + off * i.size = (ι id).cap * i.size := by rw [← Nat.add_mul]; congr 1; omega
              have := r3 (off * i.size + k) (by omega)
              rw [← Nat.add_assoc] at this
              rw [World.frozen?_setCells]
              refine ⟨?_, this.2⟩
              show ∃ u, (w.setCells _ _ _).cell? ⟨(ι id).block, (ι id).off + off * i.size + k, none⟩ = some u
              rw [hcell]
              split
              · exact ⟨_, rfl⟩
              · exact this.1
            · show ∃ u, (w.setCells _ _ _).cell? ⟨(ι id).block, (ι id).off + off * i.size + (p * i.size + q), none⟩ = some u ∧ _
              by_cases hp1 : p < len
              · have hlt1 : p * i.size + q < len * i.size := by
                  have : (p + 1) * i.size ≤ len * i.size := Nat.mul_le_mul_right _ hp1
                  rw [Nat.add_mul] at this; omega
                obtain ⟨z, hz, hzv⟩ := r4 (off + p) q (by omega) hq
                refine ⟨z, ?_, ?_⟩
                · rw [hcell, if_neg (by omega), ← hz]; congr 2; rw [Nat.add_mul]; omega
                · have e2 : ((xs.drop off).take len ++ ys).getD p .undef = xs.getD (off + p) .undef := by
                    rw [← getD_drop_take xs .undef hp1]
                    simp only [List.getD_eq_getElem?_getD]
                    rw [List.getElem?_append_left (by omega)]
                  rw [e2]; exact hzv.mono views
              · have hp2 : p - len < ys.length := by rw [List.length_append, hlen] at hp; omega
                have hk : p * i.size + q = len * i.size + ((p - len) * i.size + q) := by
                  rw [← Nat.add_assoc, ← Nat.add_mul]; congr 2; omega
                have hlt1 : (p - len) * i.size + q < ys.length * i.size := by
                  have : (p - len + 1) * i.size ≤ ys.length * i.size := Nat.mul_le_mul_right _ hp2
                  rw [Nat.add_mul] at this; omega
                refine ⟨news.getD ((p - len) * i.size + q) Go.undef, ?_, ?_⟩
                · rw [hcell, if_pos (by rw [hit.len]; omega)]
                  congr 2; omega
                · have e2 : ((xs.drop off).take len ++ ys).getD p .undef = ys.getD (p - len) .undef := by
                    simp only [List.getD_eq_getElem?_getD]
                    rw [List.getElem?_append_right (by omega), hlen]
                  rw [e2]; exact (hit.vr (p - len) q hp2 hq).mono views
          · unfold SliceAt
            rw [if_neg (by simp)]
            left
            simp
        · -- a new row
          by_cases hl0 : 0 < len
          · obtain ⟨olds, hol⟩ := items_sl (P := P) (S := S) (w := w) he (xs := (xs.drop off).take len) (x := .slice (some ⟨(ι id).block, (ι id).off + off * i.size, none⟩) len ((ι id).cap - off)) (.inr ⟨_, _, _, by rw [hlen], fun y hy => r2 y (List.mem_of_mem_drop (List.mem_of_mem_take hy)), fun p q hp hq => by
              rw [hlen] at hp
              obtain ⟨z, hz, hzv⟩ := r4 (off + p) q (by omega) hq
              refine ⟨z, ?_, ?_⟩
              · rw [← hz]; congr 2; rw [Nat.add_mul]; omega
              · rw [getD_drop_take _ _ hp]; exact hzv⟩)
            exact viaGrow _ _ olds hol (by omega) ex
          · have : len = 0 := by omega
            subst this
            obtain ⟨olds, hol⟩ := items_sl (P := P) (S := S) (w := w) he (xs := (xs.drop off).take 0) (x := .slice (some ⟨(ι id).block, (ι id).off + off * i.size, none⟩) 0 ((ι id).cap - off)) (.inl ⟨by simp, _, _, rfl⟩)
            exact viaGrow _ _ olds hol (by omega) ex
      · exact viaNil p ex hl0
  · exact hw.elim
theorem run_s2b {e : TypeId} (s : ByteArray) : ∃ (w' : World) (cells : Array Value) (cap : Nat), (Conv.stringToBytes e s).run P w = .ok (.slice (some ⟨w.heap.size, 0, none⟩) s.size cap) w' ∧
    w'.heap = w.heap.push (.cells cells e (cells.size, cells.size + 1)) ∧ w'.os = w.os ∧ w'.tape = w.tape ∧ w'.output = w.output ∧ cells.size = cap ∧ s.size ≤ cap ∧ ∀ i, i < s.size → cells[i]? = some (.int .u8 (s.data.toList.getD i 0).toNat) := by
  have hge := grownCap_ge w s.size 0 e
  let cells : Array Value := s.data.map (fun b => Value.int .u8 b.toNat) ++ Array.replicate (grownCap w s.size 0 e - s.size) (.int .u8 0)
  have hcs : cells.size = grownCap w s.size 0 e := by
    have : s.data.size = s.size := rfl
    simp [cells, this]; omega
  refine ⟨{ w.drew with heap := w.heap.push (.cells cells e (cells.size, cells.size + 1)) }, cells, grownCap w s.size 0 e, ?_, rfl, rfl, rfl, rfl, hcs, hge, fun i hi => ?_⟩
  · unfold Conv.stringToBytes
    rw [Sem.run_bind, choose_append, Result.andThen_ok]
    have h1 : (newRow e cells).run P w.drew = .ok ⟨w.heap.size, 0, none⟩ (w.drew.alloc (.cells cells e)) := by
      simp [newRow, newObj, pure, Sem.run]
      rfl
    show (newRow e cells >>= fun a => markStringish a >>= fun _ => pure (Value.slice (some a) s.size (grownCap w s.size 0 e))).run P w.drew = _
    rw [Sem.run_bind, h1, Result.andThen_ok, Sem.run_bind]
    have h2 : (markStringish ⟨w.heap.size, 0, none⟩).run P (w.drew.alloc (.cells cells e)) = .ok () { w.drew with heap := w.heap.push (.cells cells e (cells.size, cells.size + 1)) } := by
      have h3 : (w.drew.alloc (.cells cells e)).heap[w.heap.size]? = some (.cells cells e (0, 0)) := by
        show (w.heap.push _)[w.heap.size]? = _
        simp
      have hsh : (w.drew.alloc (.cells cells e)).shape? w.heap.size = some (e, cells.size) := by
        unfold World.shape?; rw [h3]
      have hrun : (markStringish ⟨w.heap.size, 0, none⟩).run P (w.drew.alloc (.cells cells e)) = .ok () ((w.drew.alloc (.cells cells e)).freeze ⟨w.heap.size, cells.size, none⟩ 1) := by
        simp only [markStringish, shape, Sem.run_bind, Sem.run, hsh, Result.andThen_ok, freeze]
      rw [hrun]
      congr 1
      show World.mk _ _ _ _ _ = World.mk _ _ _ _ _
      congr 1
      show (w.heap.push _).modify _ _ = _
      apply Array.ext_getElem?
      intro k
      rw [Array.getElem?_modify]
      by_cases hk : w.heap.size = k
      · subst hk; simp
      · rw [if_neg hk, Array.getElem?_push, Array.getElem?_push]
        simp [Ne.symm hk]
    rw [h2, Result.andThen_ok]
    rfl
  · have hi' : i < s.data.size := hi
    simp only [cells]
    rw [Array.getElem?_append_left (by simpa using hi')]
    simp only [Array.getElem?_map, List.getD_eq_getElem?_getD, Array.getElem?_toList]
    rw [Array.getElem?_eq_getElem hi']
    rfl
theorem res_s2b (h : R C ι S σ H a w) {x : Operand} {x' : Opd} {s d e : TypeId} (ho : o.op = .convert s d x) (h1 : chkOpd x x' = true)
    (hs : (P.underlying s).isSome = true) (hd : P.underlying d = some (.slice e)) (he : P.underlying e = some (.int .u8))
    (hw : opW P g σ H u (.s2b x') K) : Res P C σ H a w o K := by
  have hv1 := ev h h1
  simp only [opW] at hw
  split at hw
  · rename_i st e1
    rw [e1] at hv1
    have ex := avr_str hv1
    obtain ⟨hf, _, hK⟩ := hw
    obtain ⟨sd, hs⟩ := Option.isSome_iff_exists.1 hs
    obtain ⟨w', cells, cap, hrun, hh, g1, g2, g3, hcs, hge, hcell⟩ := run_s2b (P := P) (w := w) (e := e) st
    have hlen : (strCells st).length = st.size := by simp [strCells]
    obtain ⟨ι', hR, hv⟩ := mk_row (u := u) h hf hh g1 g2 g3 (e := 1) (xs := strCells st) (cap := cap) (by rw [hlen]; exact hge) (fun y hy => by
        obtain ⟨b, _, rfl⟩ := List.mem_map.1 hy
        exact ⟨rfl, fun c hc => by simp [u8, CV.cells] at hc; rw [hc]; rfl⟩) (by omega) (.inr (by simp only; omega)) (fun i j hi hj => by
        have : j = 0 := by omega
        subst this
        rw [hlen] at hi
        have hi' : i < st.data.size := hi
        have := hcell i hi
        simp only [Nat.mul_one, Nat.add_zero, Array.getD_eq_getD_getElem?, this, Option.getD_some, strCells, List.getD_eq_getElem?_getD, List.getElem?_map, Array.getElem?_toList]
        rw [Array.getElem?_eq_getElem hi']
        exact .int _ _)
    rw [hlen] at hv hK
    refine ⟨_, _, w', ι', S, _, _, ?_, .inl rfl, hK, hR, hv⟩
    simp only [execOp, ho, ex]
    refine runV ?_
    simp only [convert, Sem.run_bind, run_underlying hs, run_underlying hd, run_underlying he, Result.andThen_ok]
    exact hrun
  · exact hw.elim
end
def isOwn : Option LObj → Prop
  | some (.row _ _) => True
  | some (.obj _) => True
  | _ => False
structure Lend (H H' : LH) (m : List (Nat × Option Nat)) (lo hi : Nat) : Prop where
  keys : ∀ p ∈ m, lo ≤ p.1 ∧ p.1 < hi
  uniq : ∀ p ∈ m, ∀ q ∈ m, p.1 = q.1 → p = q
  moved : ∀ k i, (k, some i) ∈ m → isOwn (LH.get H i) ∧ LH.get H' i = some .dead
  inj : ∀ k k' i, (k, some i) ∈ m → (k', some i) ∈ m → k = k'
  other : ∀ i, LH.get H' i = LH.get H i ∨ ((∃ k, (k, some i) ∈ m) ∧ LH.get H' i = some .dead)
theorem Lend.refl (H : LH) (lo hi : Nat) : Lend H H [] lo hi :=
  ⟨fun p hp => (by cases hp), fun p hp => (by cases hp), fun k i h => (by cases h), fun k k' i h => (by cases h), fun i => .inl rfl⟩
theorem Lend.wider {H H' : LH} {m : List (Nat × Option Nat)} {lo hi lo' hi' : Nat} (h : Lend H H' m lo hi) (h1 : lo' ≤ lo) (h2 : hi ≤ hi') : Lend H H' m lo' hi' :=
  ⟨fun p hp => by have := h.keys p hp; omega, h.uniq, h.moved, h.inj, h.other⟩
theorem Lend.one (H : LH) {i : Nat} (k : Nat) (hi : isOwn (LH.get H i)) : Lend H (LH.set H i .dead) [(k, some i)] k (k + 1) := by
  refine ⟨fun p hp => ?_, fun p hp q hq _ => ?_, fun k' i' h => ?_, fun k1 k2 i' h1 h2 => ?_, fun j => ?_⟩
  · simp at hp; subst hp; exact ⟨Nat.le_refl _, Nat.lt_succ_self _⟩
  · simp at hp hq; rw [hp, hq]
  · simp at h; obtain ⟨rfl, rfl⟩ := h
    exact ⟨hi, by rw [LH.get_set, if_pos rfl]⟩
  · simp at h1 h2; rw [h1.1, h2.1]
  · rw [LH.get_set]
    by_cases e : j = i
    · subst e; exact .inr ⟨⟨k, by simp⟩, by rw [if_pos rfl]⟩
    · rw [if_neg e]; exact .inl rfl
theorem Lend.nil (H : LH) (k : Nat) : Lend H H [(k, none)] k (k + 1) :=
  ⟨fun p hp => by simp at hp; subst hp; exact ⟨Nat.le_refl _, Nat.lt_succ_self _⟩, fun p hp q hq _ => by simp at hp hq; rw [hp, hq], fun k' i h => by simp at h, fun k1 k2 i h1 h2 => by simp at h1, fun i => .inl rfl⟩
theorem Lend.back {H H' : LH} {m : List (Nat × Option Nat)} {lo hi i : Nat} {o : LObj} (h : Lend H H' m lo hi) (hg : LH.get H' i = some o) (hd : o ≠ .dead) : LH.get H i = some o := by
  rcases h.other i with e | ⟨_, e⟩
  · rw [← e]; exact hg
  · rw [e] at hg; cases hg; exact absurd rfl hd
theorem Lend.append {H H1 H2 : LH} {m m' : List (Nat × Option Nat)} {lo mid hi : Nat} (h : Lend H H1 m lo mid) (h' : Lend H1 H2 m' mid hi) (h1 : lo ≤ mid) (h2 : mid ≤ hi) : Lend H H2 (m ++ m') lo hi := by
  have ownBack : ∀ i, isOwn (LH.get H1 i) → isOwn (LH.get H i) := fun i ho => by
    cases hg : LH.get H1 i with
    | none => rw [hg] at ho; exact ho.elim
    | some o =>
      rw [hg] at ho
      rw [h.back hg (by intro e; subst e; exact ho)]
      exact ho
  refine ⟨fun p hp => ?_, fun p hp q hq e => ?_, fun k i hp => ?_, fun k k' i hp hq => ?_, fun i => ?_⟩
  · rcases List.mem_append.1 hp with hp | hp
    · have := h.keys p hp; omega
    · have := h'.keys p hp; omega
  · rcases List.mem_append.1 hp with hp | hp <;> rcases List.mem_append.1 hq with hq | hq
    · exact h.uniq p hp q hq e
    · have := h.keys p hp; have := h'.keys q hq; omega
    · have := h'.keys p hp; have := h.keys q hq; omega
    · exact h'.uniq p hp q hq e
  · rcases List.mem_append.1 hp with hp | hp
    · refine ⟨(h.moved k i hp).1, ?_⟩
      rcases h'.other i with e | ⟨_, e⟩
      · rw [e]; exact (h.moved k i hp).2
      · exact e
    · exact ⟨ownBack i (h'.moved k i hp).1, (h'.moved k i hp).2⟩
  · rcases List.mem_append.1 hp with hp | hp <;> rcases List.mem_append.1 hq with hq | hq
    · exact h.inj k k' i hp hq
    · have a := (h.moved k i hp).2
      have b := (h'.moved k' i hq).1
      rw [a] at b; exact b.elim
    · have a := (h.moved k' i hq).2
      have b := (h'.moved k i hp).1
      rw [a] at b; exact b.elim
    · exact h'.inj k k' i hp hq
  · rcases h'.other i with e | ⟨⟨k, hk⟩, e⟩
    · rcases h.other i with e2 | ⟨⟨k, hk⟩, e2⟩
      · exact .inl (e.trans e2)
      · exact .inr ⟨⟨k, List.mem_append_left _ hk⟩, e.trans e2⟩
    · exact .inr ⟨⟨k, List.mem_append_right _ hk⟩, e⟩
theorem mem_of_mget {m : List (Nat × Option Nat)} {k : Nat} {o : Option Nat} (h : mget m k = some o) : (k, o) ∈ m := by
  induction m with
  | nil => cases h
  | cons p m ih =>
    obtain ⟨k', o'⟩ := p
    simp only [mget] at h
    split at h
    · rename_i e; cases h; subst e; exact List.mem_cons_self
    · exact List.mem_cons_of_mem _ (ih h)
theorem mget_of_mem {m : List (Nat × Option Nat)} {k : Nat} {o : Option Nat} (hu : ∀ p ∈ m, ∀ q ∈ m, p.1 = q.1 → p = q) (h : (k, o) ∈ m) : mget m k = some o := by
  induction m with
  | nil => cases h
  | cons p m ih =>
    obtain ⟨k', o'⟩ := p
    simp only [mget]
    split
    · rename_i e
      have := hu (k, o) h (k', o') List.mem_cons_self e.symm
      cases this; rfl
    · rename_i e
      refine ih (fun p hp q hq => hu p (List.mem_cons_of_mem _ hp) q (List.mem_cons_of_mem _ hq)) ?_
      rcases List.mem_cons.1 h with h | h
      · cases h; exact absurd rfl e
      · exact h
def OcR (H : LH) (m : List (Nat × Option Nat)) (key : Nat) : OC → AV → Prop
  | .cv v, c => c = .c v
  | .own e xs, c => (xs = [] ∧ c = .c .nilsl ∧ (key, none) ∈ m) ∨ ∃ i, c = .osl i 0 xs.length ∧ (key, some i) ∈ m ∧ LH.get H i = some (.row e xs)
theorem OcR.tail {H H1 : LH} {m m' : List (Nat × Option Nat)} {lo hi key : Nat} {oc : OC} {c : AV} (hl : Lend H H1 m lo hi) (h : OcR H1 m' key oc c) : OcR H (m ++ m') key oc c := by
  cases oc with
  | cv v => exact h
  | own e xs =>
    rcases h with ⟨h1, h2, h3⟩ | ⟨i, h1, h2, h3⟩
    · exact .inl ⟨h1, h2, List.mem_append_right _ h3⟩
    · exact .inr ⟨i, h1, List.mem_append_right _ h2, hl.back h3 (by simp)⟩
theorem OcR.more {H : LH} {m m' : List (Nat × Option Nat)} {key : Nat} {oc : OC} {c : AV} (h : OcR H m key oc c) : OcR H (m ++ m') key oc c := by
  cases oc with
  | cv v => exact h
  | own e xs =>
    rcases h with ⟨h1, h2, h3⟩ | ⟨i, h1, h2, h3⟩
    · exact .inl ⟨h1, h2, List.mem_append_left _ h3⟩
    · exact .inr ⟨i, h1, List.mem_append_left _ h2, h3⟩
theorem cellsW_spec (base : Nat) : ∀ (ms : List (Option Nat)) (cs : List AV) (H : LH) (k : Nat) (F : List OC → List (Nat × Option Nat) → LH → Prop), cellsW base H ms cs k F →
    ∃ ocs m H', F ocs m H' ∧ Lend H H' m (base + 1 + k) (base + 1 + k + cs.length) ∧ ocs.length = cs.length ∧ ∀ q, q < cs.length → OcR H m (base + 1 + k + q) (ocs.getD q (.cv .undef)) (cs.getD q (.c .undef)) := by
  intro ms
  induction ms with
  | nil =>
    intro cs H k F h
    cases cs with
    | nil => exact ⟨[], [], H, h, Lend.refl _ _ _, rfl, fun q hq => by simp at hq⟩
    | cons c cs => simp [cellsW] at h
  | cons mo ms ih =>
    intro cs H k F h
    cases cs with
    | nil => cases mo <;> simp [cellsW] at h
    | cons c cs =>
      -- one more in front
      have front : ∀ (H1 : LH) (m1 : List (Nat × Option Nat)) (oc : OC), Lend H H1 m1 (base + 1 + k) (base + 1 + k + 1) → OcR H m1 (base + 1 + k) oc c →
          cellsW base H1 ms cs (k + 1) (fun l m H' => F (oc :: l) (m1 ++ m) H') → ∃ ocs m H', F ocs m H' ∧ Lend H H' m (base + 1 + k) (base + 1 + k + (c :: cs).length) ∧ ocs.length = (c :: cs).length ∧
            ∀ q, q < (c :: cs).length → OcR H m (base + 1 + k + q) (ocs.getD q (.cv .undef)) ((c :: cs).getD q (.c .undef)) := by
        intro H1 m1 oc hl hoc hc
        obtain ⟨ocs, m, H', hF, hl2, hlen, hq⟩ := ih cs H1 (k + 1) _ hc
        refine ⟨oc :: ocs, m1 ++ m, H', hF, ?_, by simp [hlen], fun q hq1 => ?_⟩
        · have : base + 1 + (k + 1) = base + 1 + k + 1 := by omega
          rw [this] at hl2
          have := hl.append hl2 (by omega) (by omega)
          exact this.wider (Nat.le_refl _) (by simp; omega)
        · cases q with
          | zero => exact hoc.more
          | succ q =>
            have := (hq q (by simpa using hq1)).tail hl
            have e : base + 1 + (k + 1) + q = base + 1 + k + (q + 1) := by omega
            rw [e] at this
            exact this
      cases mo with
      | none =>
        cases c with
        | c v => exact front H [] (.cv v) (Lend.refl _ _ _) rfl h
        | _ => simp [cellsW] at h
      | some e =>
        cases c with
        | c v =>
          cases v with
          | nilsl => exact front H [(base + 1 + k, none)] (.own e []) (Lend.nil _ _) (.inl ⟨rfl, rfl, List.mem_cons_self⟩) h
          | _ => simp [cellsW] at h
        | osl i off len =>
          simp only [cellsW] at h
          split at h
          · rename_i e' xs hget
            obtain ⟨⟨rfl, rfl⟩, h⟩ := h
            exact front _ [(base + 1 + k, some i)] (.own e' xs) (Lend.one H _ (by rw [hget]; trivial)) (.inr ⟨i, rfl, List.mem_cons_self, hget⟩) h
          · exact h.elim
        | _ => simp [cellsW] at h
def Sv (ι : Nat → Loc) (S : Nat → Nat → Prop) (w : World) (V : List Nat) (b o : Nat) : Prop := S b o ∨ ∃ i ∈ V, ((ι i).isnil = false ∧ b = (ι i).block) ∧ w.frozen? ⟨b, o, none⟩ = false
def ArgR (ι : Nat → Loc) (S : Nat → Nat → Prop) (w : World) (H : LH) (m : List (Nat × Option Nat)) (V : List Nat) (id : Nat) (av : AV) (u : Value) : Arg → Prop
  | .cv v => VR w (Sv ι S w V) v u
  | .own e xs => (xs = [] ∧ u = .slice none 0 0 ∧ (id, none) ∈ m) ∨ ∃ i, (id, some i) ∈ m ∧ LH.get H i = some (.row e xs) ∧ SliceAt (ι i) e 0 xs.length u
  | .mutr e xs => ∃ i, (id, some i) ∈ m ∧ LH.get H i = some (.row e xs) ∧ SliceAt (ι i) e 0 xs.length u ∧ av = .osl i 0 xs.length
  | .obj ocs => ∃ i cs, (id, some i) ∈ m ∧ LH.get H i = some (.obj cs) ∧ (u = .pointer (some ⟨(ι i).block, (ι i).off, none⟩) ∧ av = .ref i 0) ∧ ocs.length = cs.length ∧ ocs.length ≤ 15 ∧
      ∀ q, q < ocs.length → OcR H m (id + 1 + q) (ocs.getD q (.cv .undef)) (cs.getD q (.c .undef))
theorem Sv.more {ι : Nat → Loc} {S : Nat → Nat → Prop} {w : World} {V V' : List Nat} {b o : Nat} (h : Sv ι S w V b o) (hs : ∀ i ∈ V, i ∈ V') : Sv ι S w V' b o := by
  rcases h with h | ⟨i, hi, h1, h2⟩
  · exact .inl h
  · exact .inr ⟨i, hs i hi, h1, h2⟩
theorem ArgR.more {ι : Nat → Loc} {S : Nat → Nat → Prop} {w : World} {H : LH} {m m' : List (Nat × Option Nat)} {V V' : List Nat} {id : Nat} {av : AV} {u : Value} {ar : Arg} (h : ArgR ι S w H m V id av u ar) : ArgR ι S w H (m ++ m') (V ++ V') id av u ar := by
  cases ar with
  | cv v => exact VR.mono h fun b o x hs hx => ⟨hs.more fun i hi => List.mem_append_left _ hi, hx⟩
  | own e xs =>
    rcases h with ⟨h1, h2, h3⟩ | ⟨i, h1, h2, h3⟩
    · exact .inl ⟨h1, h2, List.mem_append_left _ h3⟩
    · exact .inr ⟨i, List.mem_append_left _ h1, h2, h3⟩
  | mutr e xs => obtain ⟨i, h1, h2, h3⟩ := h; exact ⟨i, List.mem_append_left _ h1, h2, h3⟩
  | obj ocs => obtain ⟨i, cs, h1, h2, h3, h4, h5, h6⟩ := h; exact ⟨i, cs, List.mem_append_left _ h1, h2, h3, h4, h5, fun q hq => (h6 q hq).more⟩
theorem ArgR.tail {ι : Nat → Loc} {S : Nat → Nat → Prop} {w : World} {H H1 : LH} {m m' : List (Nat × Option Nat)} {V V' : List Nat} {lo hi id : Nat} {av : AV} {u : Value} {ar : Arg} (hl : Lend H H1 m lo hi) (h : ArgR ι S w H1 m' V' id av u ar) : ArgR ι S w H (m ++ m') (V ++ V') id av u ar := by
  cases ar with
  | cv v => exact VR.mono h fun b o x hs hx => ⟨hs.more fun i hi => List.mem_append_right _ hi, hx⟩
  | own e xs =>
    rcases h with ⟨h1, h2, h3⟩ | ⟨i, h1, h2, h3⟩
    · exact .inl ⟨h1, h2, List.mem_append_right _ h3⟩
    · exact .inr ⟨i, List.mem_append_right _ h1, hl.back h2 (by simp), h3⟩
  | mutr e xs => obtain ⟨i, h1, h2, h3⟩ := h; exact ⟨i, List.mem_append_right _ h1, hl.back h2 (by simp), h3⟩
  | obj ocs => obtain ⟨i, cs, h1, h2, h3, h4, h5, h6⟩ := h; exact ⟨i, cs, List.mem_append_right _ h1, hl.back h2 (by simp), h3, h4, h5, fun q hq => (h6 q hq).tail hl⟩
section
variable {P : Program} {C : Ctx} {ι : Nat → Loc} {S : Nat → Nat → Prop} {σ : Slots} {H : LH} {a : Act} {w : World} {g : Prop}
theorem argW_spec (h : R C ι S σ H a w) (hg : g) {Hc : LH} (hc : ∀ i o, LH.get Hc i = some o → o ≠ .dead → LH.get H i = some o) {id : Nat} {v : AV} {u : Value} {md : Mode} {F : Arg → List (Nat × Option Nat) → List Nat → LH → Prop}
    (hv : AVR ι H S w v u) (hw : argW g Hc id v md F) : ∃ ar m V H', F ar m V H' ∧ Lend Hc H' m id (id + 64) ∧ ArgR ι S w Hc m V id v u ar ∧ ∀ i ∈ V, ∃ e xs, LH.get H i = some (.row e xs) := by
  have s0 : ∀ {c : CV}, VR w S c u → VR w (Sv ι S w []) c u := fun hh => hh.mono fun b o x hs hx => ⟨.inl hs, hx⟩
  cases md with
  | plain =>
    obtain ⟨v1, hv1, hk⟩ := ung hw hg hv
    split at hk
    · exact ⟨_, _, _, _, hk, Lend.refl _ _ _, s0 (avr_c hv1), fun i hi => by cases hi⟩
    · exact hk.elim
  | view esz =>
    obtain ⟨v1, hv1, hk⟩ := ung hw hg hv
    split at hk
    · refine ⟨_, _, _, _, hk, Lend.refl _ _ _, ?_, fun i hi => by cases hi⟩
      rw [avr_nilsl hv1]
      exact .slnil _ _ _
    · exact ⟨_, _, _, _, hk, Lend.refl _ _ _, s0 (avr_c hv1), fun i hi => by cases hi⟩
    · rename_i i off len
      have hO := avr_osl hv1
      split at hk
      · rename_i e xs hget
        have hget' := hc _ _ hget (by simp)
        refine ⟨_, _, _, _, hk, Lend.refl _ _ _, ?_, fun j hj => ?_⟩
        · obtain ⟨hle, hsl⟩ := oslOK_row hO (.inl hget')
          have hlen : ((xs.drop off).take len).length = len := by simp; omega
          show VR w (Sv ι S w [i]) _ _
          by_cases hp : 0 < len
          · obtain ⟨hn, ex⟩ := sliceAt_pos hsl hp
            have hr := h.hr.row _ _ _ hget'
            unfold RowR at hr
            rw [if_neg (by simp [hn])] at hr
            obtain ⟨r1, r2, r3, r4⟩ := hr
            have hch : ∀ p : Nat × Nat, ∃ z, p.1 < len → p.2 < e → (w.cell? ⟨(ι i).block, (ι i).off + off * e + (p.1 * e + p.2), none⟩ = some z ∧ VR w S ((((xs.drop off).take len).getD p.1 .undef).cells.getD p.2 .undef) z) := fun p => by
              by_cases hpq : p.1 < len ∧ p.2 < e
              · obtain ⟨z, hz, hzv⟩ := r4 (off + p.1) p.2 (by omega) hpq.2
                refine ⟨z, fun _ _ => ⟨?_, ?_⟩⟩
                · rw [← hz]; congr 2; rw [Nat.add_mul]; omega
                · rw [getD_drop_take _ _ hpq.1]; exact hzv
              · exact ⟨Go.undef, fun a b => absurd ⟨a, b⟩ hpq⟩
            have key : VR w (Sv ι S w [i]) (.sl e ((xs.drop off).take len)) (.slice (some ⟨(ι i).block, (ι i).off + off * e, none⟩) ((xs.drop off).take len).length ((ι i).cap - off)) := by
              refine .sl e _ _ _ _ (fun p q => Classical.choose (hch (p, q))) (by rw [hlen]; omega) (fun y hy => r2 y (List.mem_of_mem_drop (List.mem_of_mem_take hy))) (fun p q hp hq => ?_) (fun p q hp hq => ?_)
              · rw [hlen] at hp
                have hfz := (r3 (off * e + (p * e + q)) (by have := grid_cap (cap := (ι i).cap) (n := off + len) (i := off + p) (j := q) (e := e) (by omega) (by omega) hq; rw [Nat.add_mul] at this; omega)).2
                rw [← Nat.add_assoc] at hfz
                exact ⟨.inr ⟨i, List.mem_cons_self, ⟨hn, rfl⟩, hfz⟩, (Classical.choose_spec (hch (p, q)) hp hq).1⟩
              · rw [hlen] at hp
                exact (Classical.choose_spec (hch (p, q)) hp hq).2.mono fun b o x hs hx => ⟨.inl hs, hx⟩
            rw [hlen] at key
            rw [ex]; exact key
          · have : len = 0 := by omega
            subst this
            obtain ⟨p, c, ex⟩ := sliceLen hsl
            rw [ex, List.take_zero]
            exact .slnil _ _ _
        · simp at hj; subst hj; exact ⟨_, _, hget'⟩
      · rename_i e xs hget
        have hget' := hc _ _ hget (by simp)
        refine ⟨_, _, _, _, hk, Lend.refl _ _ _, ?_, fun j hj => by cases hj⟩
        obtain ⟨hle, hsl⟩ := oslOK_row hO (.inr hget')
        have hr := h.hr.vrow _ _ _ hget'
        refine s0 ?_
        have hlen : ((xs.drop off).take len).length = len := by simp; omega
        by_cases hp : 0 < len
        · obtain ⟨hn, ex⟩ := sliceAt_pos hsl hp
          unfold VRowR at hr
          rw [if_neg (by simp [hn])] at hr
          generalize hz : Value.slice (some ⟨(ι i).block, (ι i).off, none⟩) xs.length (ι i).cap = z at hr
          cases hr with
          | slnil => simp at hle; omega
          | sl _ _ b o cap us h1 h2 h3 h4 =>
            injection hz with z1 z2 z3
            injection z1 with z1
            injection z1 with zb zo _
            subst zb; subst zo; subst z3
            rw [ex]
            have key : VR w S (.sl e ((xs.drop off).take len)) (.slice (some ⟨(ι i).block, (ι i).off + off * e, none⟩) ((xs.drop off).take len).length ((ι i).cap - off)) := by
              refine .sl e _ _ _ _ (fun p q => us (off + p) q) (by rw [hlen]; omega) (fun y hy => h2 y (List.mem_of_mem_drop (List.mem_of_mem_take hy))) (fun p q hp hq => ?_) (fun p q hp hq => ?_)
              · rw [hlen] at hp
                have := h3 (off + p) q (by omega) hq
                have eo : (ι i).off + ((off + p) * e + q) = (ι i).off + off * e + (p * e + q) := by rw [Nat.add_mul]; omega
                rw [← eo]
                exact this
              · rw [hlen] at hp
                rw [getD_drop_take _ _ hp]
                exact h4 (off + p) q (by omega) hq
            rw [hlen] at key
            exact key
        · have : len = 0 := by omega
          subst this
          obtain ⟨p, c, ex⟩ := sliceLen hsl
          rw [ex, List.take_zero]
          exact .slnil _ _ _
      · exact hk.elim
    · exact hk.elim
  | move esz =>
    simp only [argW] at hw
    split at hw
    · refine ⟨_, _, _, _, hw, (Lend.nil _ _).wider (Nat.le_refl _) (by omega), .inl ⟨rfl, avr_nilsl hv, List.mem_cons_self⟩, fun i hi => by cases hi⟩
    · rename_i i off len
      have hO := avr_osl hv
      split at hw
      · rename_i e xs hget
        obtain ⟨⟨rfl, rfl⟩, hk⟩ := hw
        refine ⟨_, _, _, _, hk, (Lend.one _ _ (by rw [hget]; trivial)).wider (Nat.le_refl _) (by omega), .inr ⟨i, List.mem_cons_self, hget, (oslOK_row hO (.inl (hc _ _ hget (by simp)))).2⟩, fun i hi => by cases hi⟩
      · exact hw.elim
    · exact hw.elim
  | mutr =>
    simp only [argW] at hw
    split at hw
    · rename_i i off len
      have hO := avr_osl hv
      split at hw
      · rename_i e xs hget
        obtain ⟨⟨rfl, rfl⟩, hk⟩ := hw
        refine ⟨_, _, _, _, hk, (Lend.one _ _ (by rw [hget]; trivial)).wider (Nat.le_refl _) (by omega), ⟨i, List.mem_cons_self, hget, (oslOK_row hO (.inl (hc _ _ hget (by simp)))).2, rfl⟩, fun i hi => by cases hi⟩
      · exact hw.elim
    · exact hw.elim
  | ptr ms =>
    simp only [argW] at hw
    split at hw
    · rename_i i off
      split at hw
      · rename_i cs hget
        obtain ⟨⟨rfl, hle⟩, hk⟩ := hw
        obtain ⟨ocs, m, H', hF, hl, hlen, hq⟩ := cellsW_spec id ms cs _ 0 _ hk
        have h1 : Lend Hc (LH.set Hc i .dead) [(id, some i)] id (id + 1) := Lend.one Hc _ (by rw [hget]; trivial)
        refine ⟨_, _, _, _, hF, ?_, ⟨i, cs, List.mem_cons_self, hget, ⟨(refOK_obj (avr_ref hv) (hc _ _ hget (by simp))).2, rfl⟩, hlen, by omega, fun q hq1 => ?_⟩, fun i hi => by cases hi⟩
        · have := h1.append (hl.wider (Nat.le_refl _) (Nat.le_refl _)) (by omega) (by omega)
          exact this.wider (Nat.le_refl _) (by omega)
        · have := (hq q (by omega)).tail h1
          simpa using this
      · exact hw.elim
    · exact hw.elim
theorem argsW_spec (h : R C ι S σ H a w) (hg : g) (base : Nat) : ∀ (xs : List (AV × Mode)) (us : List Value) (Hc : LH) (j : Nat) (F : List Arg → List (Nat × Option Nat) → List Nat → LH → Prop),
    us.length = xs.length → (∀ q, q < xs.length → AVR ι H S w (xs.getD q (.c .undef, .plain)).1 (us.getD q Go.undef)) →
    (∀ i o, LH.get Hc i = some o → o ≠ .dead → LH.get H i = some o) → argsW g base Hc xs j F →
    ∃ as0 m V H', F as0 m V H' ∧ Lend Hc H' m (base + 64 * j) (base + 64 * (j + xs.length)) ∧ as0.length = xs.length ∧
      (∀ q, q < xs.length → ArgR ι S w Hc m V (base + 64 * (j + q)) (xs.getD q (.c .undef, .plain)).1 (us.getD q Go.undef) (as0.getD q (.cv .undef))) ∧ ∀ i ∈ V, ∃ e xs, LH.get H i = some (.row e xs) := by
  intro xs
  induction xs with
  | nil =>
    intro us Hc j F hl hch hc hw
    exact ⟨[], [], [], Hc, hw, Lend.refl _ _ _, rfl, fun q hq => by simp at hq, fun i hi => by cases hi⟩
  | cons x xs ih =>
    intro us Hc j F hl hch hc hw
    obtain ⟨x, md⟩ := x
    cases us with
    | nil => simp at hl
    | cons y us =>
      have hv := hch 0 (by simp)
      obtain ⟨ar, m, V, H1, hk, hl1, har, hV⟩ := argW_spec h hg hc hv hw
      obtain ⟨as0, m', V', H2, hF, hl2, hlen, hq, hV'⟩ := ih us H1 (j + 1) _ (by simpa using hl) (fun q hq => by simpa using hch (q + 1) (by simpa using hq)) (fun i o hi ho => hc i o (hl1.back hi ho) ho) hk
      refine ⟨_, _, _, _, hF, ?_, by simp [hlen], fun q hq1 => ?_, fun i hi => ?_⟩
      · have e1 : base + 64 * j + 64 = base + 64 * (j + 1) := by omega
        rw [e1] at hl1
        have := hl1.append hl2 (by omega) (by omega)
        exact this.wider (Nat.le_refl _) (by simp; omega)
      · cases q with
        | zero => exact har.more
        | succ q =>
          have := (hq q (by simpa using hq1)).tail hl1 (V := V)
          have e1 : base + 64 * (j + 1 + q) = base + 64 * (j + (q + 1)) := by omega
          rw [e1] at this
          exact this
      · rcases List.mem_append.1 hi with hi | hi
        · exact hV i hi
        · exact hV' i hi
end
end Go.Proofs.Ytcpdnpaedkcebaa.V
