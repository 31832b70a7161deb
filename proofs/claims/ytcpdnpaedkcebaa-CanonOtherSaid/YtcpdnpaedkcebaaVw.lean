/- Numbers that wrap; a record as the model bears it. -/
import Derived.Test.YtcpdnpaedkcebaaVq
namespace Go.Proofs.Ytcpdnpaedkcebaa.V
open Go Go.RowKit
set_option linter.unusedVariables false
set_option linter.unusedSimpArgs false

theorem wrap_i64 (x : Int) : IntKind.i64.wrap x = (x + 9223372036854775808) % 18446744073709551616 - 9223372036854775808 := by
  have e : IntKind.i64.wrap x = if (x % 18446744073709551616 ≥ 9223372036854775808) then x % 18446744073709551616 - 18446744073709551616 else x % 18446744073709551616 := by
    simp [IntKind.wrap, IntKind.bits, IntKind.signed]
  rw [e]; split <;> omega
theorem wrap_i32 (x : Int) : IntKind.i32.wrap x = (x + 2147483648) % 4294967296 - 2147483648 := by
  have e : IntKind.i32.wrap x = if (x % 4294967296 ≥ 2147483648) then x % 4294967296 - 4294967296 else x % 4294967296 := by
    simp [IntKind.wrap, IntKind.bits, IntKind.signed]
  rw [e]; split <;> omega
theorem wrap_u8 (x : Int) : IntKind.u8.wrap x = x % 256 := by simp [IntKind.wrap, IntKind.bits, IntKind.signed]
theorem wrap_u32 (x : Int) : IntKind.u32.wrap x = x % 4294967296 := by simp [IntKind.wrap, IntKind.bits, IntKind.signed]
theorem wrap_u64 (x : Int) : IntKind.u64.wrap x = x % 18446744073709551616 := by simp [IntKind.wrap, IntKind.bits, IntKind.signed]

/-- A record. -/
structure Rec where
  kind : Int
  lo : Int
  hi : Int
  n : Int
  to : List Int
  name : ByteArray
  other : ByteArray
  weight : Nat
def runes (l : List Int) : List CV := l.map (.int .i32)
def Rec.cv (r : Rec) : CV := .agg [.int .i64 r.kind, .int .i64 r.lo, .int .i64 r.hi, .int .i64 r.n, .sl 1 (runes r.to), .str r.name, .str r.other, .flt r.weight]
def recs (l : List Rec) : List CV := l.map Rec.cv
theorem runes_len (l : List Int) : (runes l).length = l.length := by simp [runes]
theorem recs_len (l : List Rec) : (recs l).length = l.length := by simp [recs]
attribute [go_sem] Rec.cv runes_len recs_len

theorem callK_i {P : Program} {g : Prop} {f : FuncId} {H : List (Nat × LObj)} {u : Nat} {K : AV → List (Nat × LObj) → Prop} {b : Bar K} {args : List Arg} {m : List (Nat × Option Nat)} {V : List Nat} {H' : List (Nat × LObj)} (out : Out)
    (h : g → CW P f args out) (h1 : (∀ i ∈ V, isLive H' i) ∧ (V = [] ∨ (∀ r ∈ out.res, r.scalar) ∧ ∀ b ∈ out.back, ∀ r ∈ b, r.scalar) ∧
      (freshC H u ∧ args.length ≤ 8 ∧ out.res.length ≤ 60 ∧ ∀ b ∈ out.back, b.length ≤ 15) ∧
      K (impRes u out.res) (backW u m (backArgs args out.back) 0 ++ impOb u out.res 0 ++ deadOf m)) : callK P g f H u K b args m V H' := ⟨out, h, h1⟩
/-- A call that is handed closed values and gives one back. -/
theorem callK_1 {P : Program} {g : Prop} {f : FuncId} {H : List (Nat × LObj)} {u : Nat} {K : AV → List (Nat × LObj) → Prop} {b : Bar K} {args : List Arg} {H' : List (Nat × LObj)} (v : CV)
    (h : g → CW P f args ⟨[.cv v], []⟩) (hu : freshC H u) (h8 : args.length.ble 8 = true) (hun : unlent args = true) (hk : K (.c v) []) : callK P g f H u K b args [] [] H' := by
  refine ⟨_, h, by simp, .inl rfl, ⟨hu, Nat.le_of_ble_eq_true h8, by simp, by simp⟩, ?_⟩
  have e : ∀ (as : List Arg) (j : Nat), unlent as = true → backW u [] (backArgs as []) j = [] := by
    intro as
    induction as with
    | nil => intro j _; rfl
    | cons a as ih =>
      intro j hu
      cases a with
      | cv v => exact ih (j + 1) hu
      | own e v => exact ih (j + 1) hu
      | mutr => cases hu
      | obj => cases hu
  simp only [e args 0 hun]
  exact hk
theorem recs_get {l : List Rec} {k : Nat} (h : k < l.length) : (recs l).getD k .undef = (l[k]).cv := by
  simp [recs, List.getD_eq_getElem?_getD, h]
theorem runes_get {l : List Int} {k : Nat} (h : k < l.length) : (runes l).getD k .undef = .int .i32 l[k] := by
  simp [runes, List.getD_eq_getElem?_getD, h]
theorem recs_at {l : List Rec} {k : Nat} (h : k < l.length) : ∃ r, (recs l).getD k .undef = r.cv ∧ r ∈ l ∧ l.drop k = r :: l.drop (k + 1) :=
  ⟨l[k], recs_get h, List.getElem_mem h, List.drop_eq_getElem_cons h⟩
theorem runes_at {l : List Int} {k : Nat} (h : k < l.length) : ∃ c, (runes l).getD k .undef = .int .i32 c ∧ c ∈ l ∧ l.drop k = c :: l.drop (k + 1) :=
  ⟨l[k], runes_get h, List.getElem_mem h, List.drop_eq_getElem_cons h⟩
attribute [go_sem] Int.toNat_natCast
theorem back_none {u : Nat} : ∀ (as : List Arg) (j : Nat), unlent as = true → backW u [] (backArgs as []) j = []
  | [], j, _ => rfl
  | .cv v :: as, j, h => back_none as (j + 1) h
  | .own e v :: as, j, h => back_none as (j + 1) h
  | .mutr _ _ :: _, _, h => by cases h
  | .obj _ :: _, _, h => by cases h
section
variable {P : Program} {g : Prop} {f : FuncId} {H : List (Nat × LObj)} {u : Nat} {K : AV → List (Nat × LObj) → Prop} {b : Bar K} {args : List Arg} {H' : List (Nat × LObj)}
theorem callK_2 (v v' : CV) (h : g → CW P f args ⟨[.cv v, .cv v'], []⟩) (hu : freshC H u) (h8 : args.length.ble 8 = true) (hun : unlent args = true) (hk : K (.tup [.c v, .c v']) []) : callK P g f H u K b args [] [] H' := by
  refine ⟨_, h, by simp, .inl rfl, ⟨hu, Nat.le_of_ble_eq_true h8, by simp, by simp⟩, ?_⟩
  simp only [back_none args 0 hun]
  exact hk
theorem callK_3 (v v' v'' : CV) (h : g → CW P f args ⟨[.cv v, .cv v', .cv v''], []⟩) (hu : freshC H u) (h8 : args.length.ble 8 = true) (hun : unlent args = true) (hk : K (.tup [.c v, .c v', .c v'']) []) : callK P g f H u K b args [] [] H' := by
  refine ⟨_, h, by simp, .inl rfl, ⟨hu, Nat.le_of_ble_eq_true h8, by simp, by simp⟩, ?_⟩
  simp only [back_none args 0 hun]
  exact hk
/-- A row of its own comes out. -/
theorem callK_O (e : Nat) (xs : List CV) (h : g → CW P f args ⟨[.own e xs], []⟩) (hu : freshC H u) (h8 : args.length.ble 8 = true) (hun : unlent args = true) (hk : K (.osl (64 * u) 0 xs.length) [(64 * u, .row e xs)]) : callK P g f H u K b args [] [] H' := by
  refine ⟨_, h, by simp, .inl rfl, ⟨hu, Nat.le_of_ble_eq_true h8, by simp, by simp⟩, ?_⟩
  simp only [back_none args 0 hun]
  exact hk
end
theorem own_at {e i n : Nat} {xs : List CV} {v : AV} {H : LH} (h : v = .osl i 0 n) (hn : n = xs.length) (hg : LH.get H i = some (.row e xs)) : OwnAt e xs v H := .inr ⟨i, by rw [h, hn], hg⟩
theorem ba_loop (s : ByteArray) : ∀ (k i : Nat) (r : List UInt8), s.size - i = k → ByteArray.toList.loop s i r = r.reverse ++ s.data.toList.drop i := by
  have hs : s.size = s.data.toList.length := by rw [Array.length_toList]; rfl
  intro k
  induction k with
  | zero =>
    intro i r h
    have e : s.data.toList.drop i = [] := List.drop_eq_nil_of_le (by omega)
    unfold ByteArray.toList.loop
    rw [if_neg (by omega), e]; simp
  | succ k ih =>
    intro i r h
    unfold ByteArray.toList.loop
    rw [if_pos (by omega), ih (i + 1) _ (by omega)]
    have hi : i < s.data.toList.length := by omega
    rw [List.drop_eq_getElem_cons hi]
    have e : s.get! i = s.data.toList[i] := by
      have hd : i < s.data.size := by simpa using hi
      simp only [ByteArray.get!, Array.getElem_toList]; exact getElem!_pos s.data i hd
    rw [e]; simp
theorem ba_toList (s : ByteArray) : s.toList = s.data.toList := by
  unfold ByteArray.toList
  rw [ba_loop s _ 0 [] rfl]; simp
attribute [go_sem] ba_toList
/-- A byte of a string. -/
def at8 (s : ByteArray) (k : Nat) : Int := (s.data.toList.getD k 0).toNat
theorem u8_at {s : ByteArray} {k : Nat} : u8 (s.data.toList.getD k 0) = .int .u8 (at8 s k) := rfl
attribute [go_sem] u8_at
end Go.Proofs.Ytcpdnpaedkcebaa.V
