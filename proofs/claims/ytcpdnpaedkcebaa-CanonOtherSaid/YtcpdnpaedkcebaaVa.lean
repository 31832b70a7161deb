/- A small calculus over the model, one: abstract values, the heap of a call's own blocks, and what it means that a world bears them. -/
import Derived.Orders
import Derived.Below
import Derived.Tactics
import Derived.Laws.IdiomCopy
import Derived.Laws.MakeOwn
import Derived.Laws.Append
import Derived.Laws.AppendOwn
import Derived.Laws.NewBlocks
namespace Go.Proofs.Ytcpdnpaedkcebaa.V
open Go Go.RowKit
set_option linter.unusedVariables false
set_option linter.unusedSimpArgs false

/-- A closed value: no address in it. -/
inductive CV where
  | bool (b : Bool)
  | int (k : IntKind) (n : Int)
  | flt (n : Nat)
  | str (s : ByteArray)
  | nilsl
  | sl (sz : Nat) (xs : List CV)
  | agg (cs : List CV)
  | fn (f : FuncId)
  | nilfn
  | undef
  | raw (v : Value)
instance : Inhabited CV := ⟨.undef⟩

def CV.cells : CV → List CV
  | .agg cs => cs
  | v => [v]

/-- One cell, and known. -/
def CV.one : CV → Bool
  | .agg _ => false
  | .undef => false
  | .raw _ => false
  | _ => true

/-- An element of so many cells. -/
def CV.wf (sz : Nat) (x : CV) : Prop := x.cells.length = sz ∧ ∀ c ∈ x.cells, c.one = true

def CV.scalar : CV → Bool
  | .bool _ | .int _ _ | .flt _ | .str _ | .fn _ | .nilfn | .nilsl | .raw _ => true
  | _ => false

/-- What a value reads as in a world; its cells lie in blocks of S. -/
inductive VR (w : World) (S : Nat → Prop) : CV → Value → Prop
  | bool (b : Bool) : VR w S (.bool b) (.bool b)
  | int (k : IntKind) (n : Int) : VR w S (.int k n) (.int k n)
  | flt (n : Nat) : VR w S (.flt n) (.float .f64 n)
  | str (s : ByteArray) : VR w S (.str s) (.string s)
  | nilsl : VR w S .nilsl (.slice none 0 0)
  | slnil (sz : Nat) (p : Option Addr) (c : Nat) : VR w S (.sl sz []) (.slice p 0 c)
  | sl (sz : Nat) (xs : List CV) (b o cap : Nat) (u : Nat → Nat → Value) (hcap : xs.length ≤ cap) (hl : ∀ x ∈ xs, x.wf sz)
      (hc : ∀ i j, i < xs.length → j < sz → S b ∧ w.cell? ⟨b, o + (i * sz + j), none⟩ = some (u i j))
      (hu : ∀ i j, i < xs.length → j < sz → VR w S ((xs.getD i .undef).cells.getD j .undef) (u i j)) :
      VR w S (.sl sz xs) (.slice (some ⟨b, o, none⟩) xs.length cap)
  | agg (cs : List CV) (us : Array Value) (hl : us.size = cs.length) (hu : ∀ i, i < cs.length → VR w S (cs.getD i .undef) (us.getD i Go.undef)) :
      VR w S (.agg cs) (.agg us)
  | fn (f : FuncId) : VR w S (.fn f) (.func (.func f) #[] #[])
  | nilfn : VR w S .nilfn .nilFunc
  | undef (v : Value) : VR w S .undef v
  | raw (v : Value) : VR w S (.raw v) v

theorem VR.mono {w w' : World} {S S' : Nat → Prop} {c : CV} {u : Value} (h : VR w S c u)
    (k : ∀ b o x, S b → w.cell? ⟨b, o, none⟩ = some x → S' b ∧ w'.cell? ⟨b, o, none⟩ = some x) : VR w' S' c u := by
  induction h with
  | bool b => exact .bool b
  | int k n => exact .int k n
  | flt n => exact .flt n
  | str s => exact .str s
  | nilsl => exact .nilsl
  | slnil sz p c => exact .slnil sz p c
  | sl sz xs b o cap u hcap hl hc hu ih =>
    exact .sl sz xs b o cap u hcap hl (fun i j hi hj => k _ _ _ (hc i j hi hj).1 (hc i j hi hj).2) ih
  | agg cs us hl hu ih => exact .agg cs us hl ih
  | fn f => exact .fn f
  | nilfn => exact .nilfn
  | undef v => exact .undef v
  | raw v => exact .raw v

theorem VR.scalar {w w' : World} {S S' : Nat → Prop} {c : CV} {u : Value} (h : VR w S c u) (hs : c.scalar = true) : VR w' S' c u := by
  cases h <;> first | (simp [CV.scalar] at hs; done) | constructor

theorem VR.oneCell {w : World} {S : Nat → Prop} {c : CV} {u : Value} (h : VR w S c u) (h1 : c.one = true) : u.cells = #[u] ∧ u.oneCell' = true := by
  cases h <;> simp_all [CV.one, Value.cells, Value.oneCell']

theorem VR.cells {w : World} {S : Nat → Prop} {c : CV} {u : Value} (h : VR w S c u) (h1 : c.one = true ∨ ∃ cs, c = .agg cs) :
    u.cells.size = c.cells.length ∧ ∀ j, j < c.cells.length → VR w S (c.cells.getD j .undef) (u.cells.getD j Go.undef) := by
  cases h with
  | agg cs us hl hu => exact ⟨hl, hu⟩
  | undef v => simp [CV.one] at h1
  | raw v => simp [CV.one] at h1
  | _ =>
    refine ⟨by simp [Value.cells, CV.cells], fun j hj => ?_⟩
    have : j = 0 := by simp [CV.cells] at hj; omega
    subst this
    simp only [Value.cells, CV.cells, List.getD_cons_zero, Array.getD_eq_getD_getElem?]
    first
      | exact .bool _ | exact .int _ _ | exact .flt _ | exact .str _ | exact .nilsl | exact .slnil _ _ _ | exact .fn _ | exact .nilfn
      | (apply VR.sl <;> assumption)

/-- A value in a slot. -/
inductive AV where
  | c (v : CV)
  | ref (id off : Nat)
  | osl (id off len : Nat)
  | eptr (id idx foff : Nat)
  | vptr (cs : List CV)
  | tup (l : List AV)
  | grd (b : Bool) (v : AV)
instance : Inhabited AV := ⟨.c .undef⟩

/-- An own block: a variable's cells; a slice's row; a row that is no longer written; none any more. -/
inductive LObj where
  | obj (cs : List AV)
  | row (esz : Nat) (xs : List CV)
  | vrow (esz : Nat) (xs : List CV)
  | dead

def LObj.own : LObj → Prop
  | .obj _ => True
  | .row _ _ => True
  | _ => False

abbrev LH := List (Nat × LObj)
def LH.get : List (Nat × LObj) → Nat → Option LObj
  | [], _ => none
  | (k, o) :: H, i => if k = i then some o else LH.get H i
def LH.set : List (Nat × LObj) → Nat → LObj → List (Nat × LObj)
  | [], i, o => [(i, o)]
  | (k, p) :: H, i, o => if k = i then (i, o) :: H else (k, p) :: LH.set H i o
def LH.sets (H : List (Nat × LObj)) : List (Nat × LObj) → List (Nat × LObj)
  | [] => H
  | (i, o) :: l => LH.set (LH.sets H l) i o

theorem LH.get_set (H : LH) (i j : Nat) (o : LObj) : LH.get (LH.set H i o) j = if j = i then some o else LH.get H j := by
  induction H with
  | nil => 
    by_cases h : i = j
    · subst h; simp [LH.set, LH.get]
    · simp [LH.set, LH.get, h, Ne.symm h]
  | cons x H ih =>
    obtain ⟨k, p⟩ := x
    by_cases h : k = i
    · subst h
      by_cases h2 : k = j
      · subst h2; simp [LH.set, LH.get]
      · simp [LH.set, LH.get, h2, Ne.symm h2]
    · by_cases h2 : k = j
      · subst h2; simp [LH.set, LH.get, h]
      · simp [LH.set, LH.get, h, h2, ih]

theorem LH.get_sets (H : LH) (i : Nat) : ∀ ws : List (Nat × LObj), LH.get (LH.sets H ws) i = match LH.get ws i with | some o => some o | none => LH.get H i
  | [] => rfl
  | (k, o) :: ws => by
    simp only [LH.sets, LH.get_set, LH.get]
    by_cases e : i = k
    · rw [if_pos e, if_pos e.symm]
    · rw [if_neg e, if_neg (Ne.symm e)]; exact LH.get_sets H i ws

abbrev Slots := List (Nat × AV)
def Slots.get : List (Nat × AV) → Nat → AV
  | [], _ => .c .undef
  | (k, o) :: H, i => if k = i then o else Slots.get H i
def Slots.set (H : List (Nat × AV)) (i : Nat) (o : AV) : List (Nat × AV) := (i, o) :: H
def Slots.put (σ : List (Nat × AV)) : Option Nat → AV → List (Nat × AV)
  | some d, v => Slots.set σ d v
  | none, _ => σ

theorem Slots.get_set (H : Slots) (i j : Nat) (o : AV) : Slots.get (Slots.set H i o) j = if j = i then o else Slots.get H j := by
  by_cases h : i = j
  · subst h; simp [Slots.set, Slots.get]
  · simp [Slots.set, Slots.get, h, Ne.symm h]

/-- Where an own block lies. -/
structure Loc where
  block : Nat
  off : Nat
  cap : Nat
  isnil : Bool
instance : Inhabited Loc := ⟨⟨0, 0, 0, true⟩⟩

def RefOK (ι : Nat → Loc) (H : LH) (id off : Nat) (u : Value) : Prop :=
  match LH.get H id with
  | some (.obj cs) => off ≤ cs.length ∧ u = .pointer (some ⟨(ι id).block, (ι id).off + off, none⟩)
  | some .dead => True
  | _ => False
def SliceAt (L : Loc) (esz off len : Nat) (u : Value) : Prop :=
  if L.isnil = true then off = 0 ∧ len = 0 ∧ ∃ p, u = .slice p 0 0
  else u = .slice (some ⟨L.block, L.off + off * esz, none⟩) len (L.cap - off) ∨ (len = 0 ∧ ∃ p, u = .slice p 0 0)
def OslOK (ι : Nat → Loc) (H : LH) (id off len : Nat) (u : Value) : Prop :=
  match LH.get H id with
  | some (.row esz xs) => off + len ≤ xs.length ∧ SliceAt (ι id) esz off len u
  | some (.vrow esz xs) => off + len ≤ xs.length ∧ SliceAt (ι id) esz off len u
  | some .dead => True
  | _ => False
def EptrAt (L : Loc) (esz idx foff : Nat) (u : Value) : Prop :=
  L.isnil = false ∧ u = .pointer (some ⟨L.block, L.off + (idx * esz + foff), none⟩)
def EptrOK (ι : Nat → Loc) (H : LH) (id idx foff : Nat) (u : Value) : Prop :=
  match LH.get H id with
  | some (.row esz xs) => idx < xs.length ∧ EptrAt (ι id) esz idx foff u
  | some (.vrow esz xs) => idx < xs.length ∧ EptrAt (ι id) esz idx foff u
  | some .dead => True
  | _ => False

inductive AVR (ι : Nat → Loc) (H : LH) (S : Nat → Prop) (w : World) : AV → Value → Prop
  | c (v : CV) (u : Value) (h : VR w S v u) : AVR ι H S w (.c v) u
  | ref (id off : Nat) (u : Value) (h : RefOK ι H id off u) : AVR ι H S w (.ref id off) u
  | osl (id off len : Nat) (u : Value) (h : OslOK ι H id off len u) : AVR ι H S w (.osl id off len) u
  | eptr (id idx foff : Nat) (u : Value) (h : EptrOK ι H id idx foff u) : AVR ι H S w (.eptr id idx foff) u
  | vptr (cs : List CV) (b o : Nat) (h : ∀ j, j < cs.length → ∃ x, S b ∧ w.cell? ⟨b, o + j, none⟩ = some x ∧ VR w S (cs.getD j .undef) x) :
      AVR ι H S w (.vptr cs) (.pointer (some ⟨b, o, none⟩))
  | tup (l : List AV) (us : Array Value) (hl : us.size = l.length) (hu : ∀ i, i < l.length → AVR ι H S w (l.getD i (.c .undef)) (us.getD i Go.undef)) :
      AVR ι H S w (.tup l) (.tuple us)
  | grd (b : Bool) (v : AV) (u : Value) (h : b = true → AVR ι H S w v u) (h0 : b = false → u = Go.undef) : AVR ι H S w (.grd b v) u

def Kept (ι ι' : Nat → Loc) (id : Nat) (o o' : LObj) : Prop :=
  match o, o' with
  | _, .dead => True
  | .obj cs, .obj cs' => ι' id = ι id ∧ cs'.length = cs.length
  | .row e xs, .row e' xs' => ι' id = ι id ∧ e' = e ∧ xs'.length = xs.length
  | .row e xs, .vrow e' xs' => ι' id = ι id ∧ e' = e ∧ xs'.length = xs.length
  | .vrow e xs, .vrow e' xs' => ι' id = ι id ∧ e' = e ∧ xs'.length = xs.length
  | _, _ => False

theorem Kept.refl (ι : Nat → Loc) (id : Nat) (o : LObj) : Kept ι ι id o o := by cases o <;> simp [Kept]

theorem AVR.mono {ι ι' : Nat → Loc} {H H' : LH} {S S' : Nat → Prop} {w w' : World} {a : AV} {u : Value} (h : AVR ι H S w a u)
    (k : ∀ b o x, S b → w.cell? ⟨b, o, none⟩ = some x → S' b ∧ w'.cell? ⟨b, o, none⟩ = some x)
    (hk : ∀ id o, LH.get H id = some o → ∃ o', LH.get H' id = some o' ∧ Kept ι ι' id o o') : AVR ι' H' S' w' a u := by
  induction h with
  | c v u h => exact .c v u (h.mono k)
  | ref id off u h =>
    refine .ref id off u ?_
    unfold RefOK at h ⊢
    split at h
    · rename_i cs e
      obtain ⟨o', e', kp⟩ := hk _ _ e
      rw [e']
      cases o' <;> simp_all [Kept]
    · rename_i e
      obtain ⟨o', e', kp⟩ := hk _ _ e
      rw [e']
      cases o' <;> simp_all [Kept]
    · exact h.elim
  | osl id off len u h =>
    refine .osl id off len u ?_
    unfold OslOK at h ⊢
    split at h
    · rename_i cs e
      obtain ⟨o', e', kp⟩ := hk _ _ e
      rw [e']
      cases o' <;> simp_all [Kept]
    · rename_i cs e
      obtain ⟨o', e', kp⟩ := hk _ _ e
      rw [e']
      cases o' <;> simp_all [Kept]
    · rename_i e
      obtain ⟨o', e', kp⟩ := hk _ _ e
      rw [e']
      cases o' <;> simp_all [Kept]
    · exact h.elim
  | eptr id idx foff u h =>
    refine .eptr id idx foff u ?_
    unfold EptrOK at h ⊢
    split at h
    · rename_i cs e
      obtain ⟨o', e', kp⟩ := hk _ _ e
      rw [e']
      cases o' <;> simp_all [Kept]
    · rename_i cs e
      obtain ⟨o', e', kp⟩ := hk _ _ e
      rw [e']
      cases o' <;> simp_all [Kept]
    · rename_i e
      obtain ⟨o', e', kp⟩ := hk _ _ e
      rw [e']
      cases o' <;> simp_all [Kept]
    · exact h.elim
  | vptr cs b o h =>
    exact .vptr cs b o fun j hj => let ⟨x, hs, hx, hv⟩ := h j hj; ⟨x, (k _ _ _ hs hx).1, (k _ _ _ hs hx).2, hv.mono k⟩
  | tup l us hl hu ih => exact .tup l us hl ih
  | grd b v u h h0 ih => exact .grd b v u ih h0

/-- The block of an own thing. -/
def Owned (ι : Nat → Loc) (H : LH) (id : Nat) : Prop :=
  match LH.get H id with
  | some (.obj _) => True
  | some (.row _ _) => (ι id).isnil = false
  | _ => False

def RowR (L : Loc) (S : Nat → Prop) (w : World) (esz : Nat) (xs : List CV) : Prop :=
  if L.isnil = true then xs = []
  else xs.length ≤ L.cap ∧ (∀ x ∈ xs, x.wf esz) ∧
    (∀ o, o < L.cap * esz → (∃ u, w.cell? ⟨L.block, L.off + o, none⟩ = some u) ∧ w.frozen? ⟨L.block, L.off + o, none⟩ = false) ∧
    ∀ i j, i < xs.length → j < esz → ∃ u, w.cell? ⟨L.block, L.off + (i * esz + j), none⟩ = some u ∧ VR w S ((xs.getD i .undef).cells.getD j .undef) u
def VRowR (L : Loc) (S : Nat → Prop) (w : World) (esz : Nat) (xs : List CV) : Prop :=
  if L.isnil = true then xs = [] else VR w S (.sl esz xs) (.slice (some ⟨L.block, L.off, none⟩) xs.length L.cap)
def ObjR (ι : Nat → Loc) (H : LH) (L : Loc) (S : Nat → Prop) (w : World) (cs : List AV) : Prop :=
  ∀ k, k < cs.length → ∃ u, w.cell? ⟨L.block, L.off + k, none⟩ = some u ∧ w.frozen? ⟨L.block, L.off + k, none⟩ = false ∧ AVR ι H S w (cs.getD k (.c .undef)) u

/-- The world bears the own blocks. -/
structure HR (ι : Nat → Loc) (S : Nat → Prop) (H : LH) (w : World) : Prop where
  obj : ∀ id cs, LH.get H id = some (.obj cs) → ObjR ι H (ι id) S w cs
  row : ∀ id esz xs, LH.get H id = some (.row esz xs) → RowR (ι id) S w esz xs
  vrow : ∀ id esz xs, LH.get H id = some (.vrow esz xs) → VRowR (ι id) S w esz xs
  inj : ∀ i j, Owned ι H i → Owned ι H j → (ι i).block = (ι j).block → i = j
  disj : ∀ i, Owned ι H i → ¬ S (ι i).block
  lt : ∀ i, Owned ι H i → (ι i).block < w.heap.size
  slt : ∀ b, S b → b < w.heap.size

/-- What was there when the call began, but for the blocks of O, is as it was. -/
structure Fr (O : Nat → Prop) (w w' : World) : Prop where
  os : w'.os = w.os
  tape : w'.tape = w.tape
  output : w'.output = w.output
  size : w.heap.size ≤ w'.heap.size
  block : ∀ k, k < w.heap.size → ¬ O k → w'.heap[k]? = w.heap[k]?
theorem Fr.refl (O : Nat → Prop) (w : World) : Fr O w w := ⟨rfl, rfl, rfl, Nat.le_refl _, fun _ _ _ => rfl⟩
theorem Fr.below {O : Nat → Prop} {w w' : World} (h : Fr O w w') (hO : ∀ b, ¬ O b) : Below w.heap.size w w' :=
  ⟨h.os, h.tape, h.output, h.size, fun k hk => h.block k hk (hO k)⟩

/-- What a call began with: the world, its own blocks' numbers, the blocks that are read, the own things' places, the number of slots. -/
structure Ctx where
  w0 : World
  O : Nat → Prop
  S0 : Nat → Prop
  ι0 : Nat → Loc
  n : Nat
  ds : List Deferred
def argBase : Nat := 3000000

structure R (C : Ctx) (ι : Nat → Loc) (S : Nat → Prop) (σ : Slots) (H : LH) (a : Act) (w : World) : Prop where
  fr : Fr C.O C.w0 w
  hr : HR ι S H w
  sl : ∀ t, AVR ι H S w (Slots.get σ t) (a.tmps.getD t Go.undef)
  own : ∀ id, Owned ι H id → C.O (ι id).block ∨ C.w0.heap.size ≤ (ι id).block
  sup : ∀ b, S b → C.S0 b ∨ C.O b ∨ C.w0.heap.size ≤ b
  sub : ∀ b, C.S0 b → S b
  loc : ∀ id ob, LH.get H id = some ob → ob.own → argBase ≤ id → ι id = C.ι0 id
  size : a.tmps.size = C.n
  defs : a.defers = C.ds

theorem AVR.undef {ι : Nat → Loc} {H : LH} {S : Nat → Prop} {w : World} (u : Value) : AVR ι H S w (.c .undef) u := .c _ _ (.undef u)

theorem R.put {C : Ctx} {ι : Nat → Loc} {S : Nat → Prop} {σ : Slots} {H : LH} {a : Act} {w : World} (h : R C ι S σ H a w) {d : Option Nat} {av : AV} {v : Value}
    (hv : AVR ι H S w av v) (hd : ∀ k, d = some k → k < C.n) : R C ι S (Slots.put σ d av) H (a.put d v) w := by
  cases d with
  | none => exact h
  | some d =>
    refine ⟨h.fr, h.hr, fun t => ?_, h.own, h.sup, h.sub, h.loc, by simp [Act.put, h.size], h.defs⟩
    simp only [Slots.put, Slots.get_set, Act.put]
    by_cases e : t = d
    · subst e
      have hlt : t < a.tmps.size := by rw [h.size]; exact hd _ rfl
      simp [hlt]; exact hv
    · rw [if_neg e]
      have := h.sl t
      simpa [Array.getD_eq_getD_getElem?, Array.getElem?_setIfInBounds_ne (Ne.symm e)] using this

end Go.Proofs.Ytcpdnpaedkcebaa.V
