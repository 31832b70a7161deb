-- Written by wip/tools/pr.py of this session over the kit's print (widened); the words are the kit's print's own. Not trusted: Lean checks it.
import Derived.Test.YtgjmollnjlkjhaaQx0
import Derived.Test.YtgjmollnjlkjhaaQx1
import Derived.Test.YtgjmollnjlkjhaaQx2
import Derived.Test.YtgjmollnjlkjhaaQx3
import Derived.Test.YtgjmollnjlkjhaaQx7
namespace Go.Proofs.Ytgjmollnjlkjhaa.Q
open Go.RowKit Go.Proofs.YtgjmollnjlkjhaaW.PrintWords Go.Proofs.YtgjmollnjlkjhaaW.PrintLast Go.Proofs.YtgjmollnjlkjhaaW.PrintMore
attribute [local go_sem] max2_int min2_int max_two min_two max_three min_three max_four min_four   -- for this text's walks alone
set_option linter.unusedVariables false
set_option linter.unusedSimpArgs false

/-! ### endonymlaw1_WireSums: function 7 (by hand) -/
theorem C_prefix {w : World} {g : Nat} {l m : List Int} (h : Kd.C (Kd.int .u8) w (some ⟨g, 0, none⟩) (l ++ m).length (l ++ m)) : Kd.C (Kd.int .u8) w (some ⟨g, 0, none⟩) l.length l := by
  have hR := Kd.reads_of_C (enc := Value.int .u8) (d := (0 : Int)) (h1 := fun _ => rfl) h
  obtain ⟨hl, hm, hcell⟩ := hR
  have hm' : l.length ≤ 9223372036854775807 := by rw [List.length_append] at hm; omega
  refine Kd.C_of_reads (d := (0 : Int)) ⟨rfl, hm', fun hp => ?_⟩
  obtain ⟨ad, had, hc⟩ := hcell (by simp; omega)
  refine ⟨ad, had, fun j hj => ?_⟩
  rw [hc j (by simp; omega)]
  simp [List.getD_eq_getElem?_getD, List.getElem?_append_left hj]
def KM : Kd (List Int) where
  sz := 1
  E := 5 :: (Kd.int .u8).E
  K := fun w xs cs => ∃ g c, cs = [.slice (some ⟨g, 0, none⟩) xs.length c] ∧ xs.length + 2 ≤ c ∧ (Kd.int .u8).C w (some ⟨g, 0, none⟩) (xs ++ [77, 78]).length (xs ++ [77, 78])
  M := fun w base ok xs cs => ∃ g c, cs = [.slice (some ⟨g, 0, none⟩) xs.length c] ∧ (Kd.int .u8).R 5 w base ok (.slice (some ⟨g, 0, none⟩) (xs ++ [77, 78]).length c) (xs ++ [77, 78])
  K_len := by
    rintro w x cs ⟨g, c, rfl, _⟩
    rfl
  K_one := by
    rintro w x cs ⟨g, c, rfl, _⟩ u hu
    rw [List.mem_singleton.1 hu]
    rfl
  K_below := by
    rintro w w1 x cs hb ⟨g, c, rfl, hl, hr⟩
    exact ⟨g, c, rfl, hl, Kd.C_below hr hb⟩
  K_of_M := by
    rintro w base ok x cs ⟨g, c, rfl, h⟩
    obtain ⟨h1, h2, h3⟩ := Kd.R_reads' h
    exact ⟨g, c, rfl, by simpa using h2, h3⟩
  M_mono := by
    rintro w base ok ok' x cs hok ⟨g, c, rfl, h⟩
    exact ⟨g, c, rfl, Kd.R_mono h hok⟩
  M_bound := by
    rintro w base ok x cs ⟨g, c, rfl, h⟩
    exact ⟨g, c, rfl, Kd.R_bound h⟩
  M_move := by
    rintro w w1 base ok x cs hm ⟨g, c, rfl, h⟩
    exact ⟨g, c, rfl, Kd.R_move h hm⟩
  M_lower := by
    rintro w base base' ok x cs hle ⟨g, c, rfl, h⟩
    exact ⟨g, c, rfl, Kd.R_lower h hle⟩
theorem KM_row {base : Nat} {ok : Nat → Prop} {w : World} {g c : Nat} {xs : List Int} (h : (Kd.int .u8).R 5 w base ok (.slice (some ⟨g, 0, none⟩) (xs ++ [77, 78]).length c) (xs ++ [77, 78])) : KM.M w base ok xs [.slice (some ⟨g, 0, none⟩) xs.length c] := ⟨g, c, rfl, h⟩
theorem KM_slice {w : World} {A : Option Addr} {n : Nat} {xs : List (List Int)} (h : Kd.C KM w A n xs) : Kd.C (Kd.slice 5 (Kd.int .u8)) w A n xs := by
  obtain ⟨h1, h2, h3⟩ := h
  refine ⟨h1, h2, fun hn => ?_⟩
  obtain ⟨ad, e, hc⟩ := h3 hn
  refine ⟨ad, e, fun j p hj => ?_⟩
  obtain ⟨cs, hl, ⟨g, c, rfl, hcap, hr⟩, hu⟩ := hc j p hj
  exact ⟨_, hl, ⟨some ⟨g, 0, none⟩, c, rfl, by omega, C_prefix hr⟩, hu⟩
theorem at_KM {w : World} {A : Option Addr} {n : Nat} {xs : List (List Int)} (h : Kd.C KM w A n xs) (i : Int) (h0 : 0 ≤ i) (h1 : i < n) : ∃ ad A0 c0, A = some ad ∧ w.cell? (ad.add i.toNat) = some (.slice A0 (rd_L1 xs i).length c0) ∧ (rd_L1 xs i).length + 2 ≤ c0 ∧ ((∃ g, A0 = some ⟨g, 0, none⟩) ∧ (Kd.int .u8).C w A0 (rd_L1 xs i ++ [77, 78]).length (rd_L1 xs i ++ [77, 78])) := by
  obtain ⟨ad, c, e, _, hK, hc0⟩ := Kd.C_get h ([] : List Int) i h0 h1
  have hc : ∀ j u, c[j]? = some u → w.cell? (ad.add (i.toNat * 1 + j)) = some u := hc0
  obtain ⟨g, c0, rfl, l0, g0⟩ := hK
  exact ⟨ad, some ⟨g, 0, none⟩, c0, e, by have hq := hc 0 _ rfl; rwa [Nat.mul_one, Nat.add_zero] at hq, l0, ⟨g, rfl⟩, g0⟩
theorem endonymlaw1_roomy.calls2 (A0 : Option Addr) (c0 : Nat) (l0 : List Int) (r : List Int) (w : World) (hr0 : Kd.C (Kd.int .u8) w A0 l0.length l0) (hc0 : l0.length ≤ c0) (h : endonymlaw1_roomy.f l0 = some r) (n : Nat) (hn : n = l0.length) :
    Calls Try.prog 11 #[.slice A0 n c0] w fun e w' => ∃ (g cap : Nat), e = .returned (.slice (some ⟨g, 0, none⟩) r.length cap) ∧ Kd.R (Kd.int .u8) 5 w' w.heap.size (fun _ => True) (.slice (some ⟨g, 0, none⟩) (r ++ [77, 78]).length cap) (r ++ [77, 78]) ∧ Below w.heap.size w w' := by
  subst hn
  unfold endonymlaw1_roomy.f at h
  by_cases hl : l0.length < 140737488355326
  · rw [if_pos hl] at h
    obtain rfl := Option.some.inj h
    refine (endonymlaw1_roomy.marks A0 c0 l0 w hr0 hc0 hl).mono ?_
    rintro e w' ⟨g, cap, rfl, hcap, hR, hb⟩
    exact ⟨g, cap, rfl, hR, hb⟩
  · rw [if_neg hl] at h
    cases h
def endonymlaw1_whole.f (l0 l1 : List Int) : Option Bool := if l0 = l1 ∧ l0.length ≤ 140737488355328 then some true else none
theorem endonymlaw1_whole.calls2 {A0 : Option Addr} (hG : ∃ g, A0 = some ⟨g, 0, none⟩) (c0 : Nat) (l0 : List Int) (A1 : Option Addr) (c1 : Nat) (l1 : List Int) (r : Bool) (w : World) (hr0 : Kd.C (Kd.int .u8) w A0 (l0 ++ [77, 78]).length (l0 ++ [77, 78])) (hc0 : l0.length + 2 ≤ c0) (hr1 : Kd.C (Kd.int .u8) w A1 l1.length l1) (hc1 : l1.length ≤ c1) (h : endonymlaw1_whole.f l0 l1 = some r) (n0 : Nat) (hn0 : n0 = l0.length) (n1 : Nat) (hn1 : n1 = l1.length) :
    Calls Try.prog 18 #[.slice A0 n0 c0, .slice A1 n1 c1] w fun e w' => e = .returned (.bool r) ∧ Drawn0 w w' := by
  subst hn0 hn1
  unfold endonymlaw1_whole.f at h
  by_cases hl : l0 = l1 ∧ l0.length ≤ 140737488355328
  · rw [if_pos hl] at h
    obtain rfl := Option.some.inj h
    obtain ⟨rfl, hm⟩ := hl
    obtain ⟨g, rfl⟩ := hG
    exact endonymlaw1_whole.marks g c0 l0 A1 c1 w hr0 hc0 hr1 hc1 hm
  · rw [if_neg hl] at h
    cases h

/-! ### endonymlaw1_WireSums: function 7 -/
mutual
def endonymlaw1_WireSums.l0 : Nat → List Int → List Int → List (List Int) → Int → Int → Option (Bool)
 | 0, _, _, _, _, _ => none
 | k + 1, x0, x1, x5, x6, x7 => if x7 < (x1.length : Int) then (endonymlaw1_WireSums.j1 k x0 x1 x5 x6 x7 (decide (x7 < 40))) else (endonymlaw1_WireSums.j1 k x0 x1 x5 x6 x7 false)
def endonymlaw1_WireSums.j1 : Nat → List Int → List Int → List (List Int) → Int → Int → Bool → Option (Bool)
 | 0, _, _, _, _, _, _ => none
 | k + 1, x0, x1, x5, x6, x7, x23 => if x23 = true then (if 0 ≤ x7 then (if x7 < (x1.length : Int) then (if (wrap64 (x6 + (Go.bits .and .i64 (rd x1 x7) 63))) > (x0.length : Int) then (if 0 ≤ x6 then (if x6 ≤ (x0.length : Int) then (if (x0.length : Int) ≤ (x0.length : Int) then ((endonymlaw1_roomy.f ((x0.take ((x0.length : Int) : Int).toNat).drop (x6 : Int).toNat)).bind fun t121 => (if x5.length < 5864062014805 then (endonymlaw1_WireSums.l0 k x0 x1 (x5 ++ [t121]) (x0.length : Int) (wrap64 (x7 + 1))) else (none))) else (none)) else (none)) else (none)) else (if 0 ≤ x6 then (if x6 ≤ (wrap64 (x6 + (Go.bits .and .i64 (rd x1 x7) 63))) then (if (wrap64 (x6 + (Go.bits .and .i64 (rd x1 x7) 63))) ≤ (x0.length : Int) then ((endonymlaw1_roomy.f ((x0.take ((wrap64 (x6 + (Go.bits .and .i64 (rd x1 x7) 63))) : Int).toNat).drop (x6 : Int).toNat)).bind fun t128 => (if x5.length < 5864062014805 then (endonymlaw1_WireSums.l0 k x0 x1 (x5 ++ [t128]) (wrap64 (x6 + (Go.bits .and .i64 (rd x1 x7) 63))) (wrap64 (x7 + 1))) else (none))) else (none)) else (none)) else (none))) else (none)) else (none)) else (if 0 ≤ x6 then (if x6 ≤ (x0.length : Int) then ((endonymlaw1_roomy.f (x0.drop (x6 : Int).toNat)).bind fun t135 => (if x5.length < 5864062014805 then ((some (x5 ++ [t135] : List (List Int))).bind fun y138 => ((wire_Sum.f k y138).bind fun t141 => ((wire_Joined.f k y138).bind fun t142 => ((wire_Joined.f k y138).bind fun t145 => ((endonymlaw1_told.f).bind fun t148 => (if t148 = true then ((endonymref1_Sum.f k x0).bind fun t149 => (if t141 = t149 then (endonymlaw1_WireSums.j2 k x0 y138 t142 t145 ((strOfNums t142).toList != (strOfNums x0).toList)) else (endonymlaw1_WireSums.j2 k x0 y138 t142 t145 true))) else (endonymlaw1_WireSums.j2 k x0 y138 t142 t145 true))))))) else (none))) else (none)) else (none))
def endonymlaw1_WireSums.j2 : Nat → List Int → List (List Int) → List Int → List Int → Bool → Option (Bool)
 | 0, _, _, _, _, _ => none
 | k + 1, x0, x5, x10, x11, x75 => if x75 = true then (some false) else (endonymlaw1_WireSums.l1 k x0 x5 x10 x11 0)
def endonymlaw1_WireSums.l1 : Nat → List Int → List (List Int) → List Int → List Int → Int → Option (Bool)
 | 0, _, _, _, _, _ => none
 | k + 1, x0, x5, x10, x11, x12 => if x12 < (x10.length : Int) then (if 0 ≤ x12 then (endonymlaw1_WireSums.l1 k x0 x5 (x10.set (x12 : Int).toNat (((rd x10 x12) + 1) % 256)) x11 (wrap64 (x12 + 1))) else (none)) else (if x10.length < 140737488355328 then (endonymlaw1_WireSums.l2 k x0 x5 0 x11 (x10 ++ [9]) 0) else (none))
def endonymlaw1_WireSums.l2 : Nat → List Int → List (List Int) → Int → List Int → List Int → Int → Option (Bool)
 | 0, _, _, _, _, _, _ => none
 | k + 1, x0, x5, x6, x11, x13, x14 => if x14 < (x5.length : Int) then (if 0 ≤ x14 then (if 0 ≤ x6 then (if x6 ≤ (wrap64 (x6 + ((rd_L1 x5 x14).length : Int))) then (if (wrap64 (x6 + ((rd_L1 x5 x14).length : Int))) ≤ (x0.length : Int) then ((endonymlaw1_whole.f (rd_L1 x5 x14) ((x0.take ((wrap64 (x6 + ((rd_L1 x5 x14).length : Int))) : Int).toNat).drop (x6 : Int).toNat)).bind fun t158 => (if t158 = true then (endonymlaw1_WireSums.l2 k x0 x5 (wrap64 (x6 + ((rd_L1 x5 x14).length : Int))) x11 x13 (wrap64 (x14 + 1))) else (some false))) else (none)) else (none)) else (none)) else (none)) else (if (x13.length : Int) = (wrap64 ((x0.length : Int) + 1)) then (some ((strOfNums x11).toList == (strOfNums x0).toList)) else (some false))
end
def endonymlaw1_WireSums.f (k : Nat) (l0 : List Int) (l1 : List Int) : Option (Bool) := endonymlaw1_WireSums.l0 k l0 l1 ([] : List (List Int)) 0 0
theorem endonymlaw1_WireSums.mono_l : ∀ k, (∀ y0 y1 y2 y3 y4, LeO (endonymlaw1_WireSums.l0 k y0 y1 y2 y3 y4) (endonymlaw1_WireSums.l0 (k + 1) y0 y1 y2 y3 y4)) ∧ (∀ y0 y1 y2 y3 y4 y5, LeO (endonymlaw1_WireSums.j1 k y0 y1 y2 y3 y4 y5) (endonymlaw1_WireSums.j1 (k + 1) y0 y1 y2 y3 y4 y5)) ∧ (∀ y0 y1 y2 y3 y4, LeO (endonymlaw1_WireSums.j2 k y0 y1 y2 y3 y4) (endonymlaw1_WireSums.j2 (k + 1) y0 y1 y2 y3 y4)) ∧ (∀ y0 y1 y2 y3 y4, LeO (endonymlaw1_WireSums.l1 k y0 y1 y2 y3 y4) (endonymlaw1_WireSums.l1 (k + 1) y0 y1 y2 y3 y4)) ∧ (∀ y0 y1 y2 y3 y4 y5, LeO (endonymlaw1_WireSums.l2 k y0 y1 y2 y3 y4 y5) (endonymlaw1_WireSums.l2 (k + 1) y0 y1 y2 y3 y4 y5))
 | 0 => ⟨fun _ _ _ _ _ r h => by simp [endonymlaw1_WireSums.l0] at h, fun _ _ _ _ _ _ r h => by simp [endonymlaw1_WireSums.j1] at h, fun _ _ _ _ _ r h => by simp [endonymlaw1_WireSums.j2] at h, fun _ _ _ _ _ r h => by simp [endonymlaw1_WireSums.l1] at h, fun _ _ _ _ _ _ r h => by simp [endonymlaw1_WireSums.l2] at h⟩
 | k + 1 => by
  obtain ⟨ih0, ih1, ih2, ih3, ih4⟩ := endonymlaw1_WireSums.mono_l k
  refine ⟨?_, ?_, ?_, ?_, ?_⟩
  ·intro y0 y1 y2 y3 y4
   unfold endonymlaw1_WireSums.l0
   repeat' first
   | (with_reducible exact ih0 _ _ _ _ _)
   | (with_reducible exact ih1 _ _ _ _ _ _)
   | (with_reducible exact ih2 _ _ _ _ _)
   | (with_reducible exact ih3 _ _ _ _ _)
   | (with_reducible exact ih4 _ _ _ _ _ _)
   | (with_reducible exact endonymref1_Sum.mono _ _)
   | (with_reducible exact wire_Joined.mono _ _)
   | (with_reducible exact wire_Sum.mono _ _)
   | (with_reducible exact LeO.refl _)
   | (with_reducible exact LeO.none _)
   | (with_reducible refine LeO.ite ?_ ?_)
   | (with_reducible refine LeO.bind ?_ (fun _ => ?_))
   | exact ih0 _ _ _ _ _
   | exact ih1 _ _ _ _ _ _
   | exact ih2 _ _ _ _ _
   | exact ih3 _ _ _ _ _
   | exact ih4 _ _ _ _ _ _
   | exact endonymref1_Sum.mono _ _
   | exact wire_Joined.mono _ _
   | exact wire_Sum.mono _ _
   | exact LeO.none _
   | refine LeO.ite ?_ ?_
   | refine LeO.bind ?_ (fun _ => ?_)
  ·intro y0 y1 y2 y3 y4 y5
   unfold endonymlaw1_WireSums.j1
   repeat' first
   | (with_reducible exact ih0 _ _ _ _ _)
   | (with_reducible exact ih1 _ _ _ _ _ _)
   | (with_reducible exact ih2 _ _ _ _ _)
   | (with_reducible exact ih3 _ _ _ _ _)
   | (with_reducible exact ih4 _ _ _ _ _ _)
   | (with_reducible exact endonymref1_Sum.mono _ _)
   | (with_reducible exact wire_Joined.mono _ _)
   | (with_reducible exact wire_Sum.mono _ _)
   | (with_reducible exact LeO.refl _)
   | (with_reducible exact LeO.none _)
   | (with_reducible refine LeO.ite ?_ ?_)
   | (with_reducible refine LeO.bind ?_ (fun _ => ?_))
   | exact ih0 _ _ _ _ _
   | exact ih1 _ _ _ _ _ _
   | exact ih2 _ _ _ _ _
   | exact ih3 _ _ _ _ _
   | exact ih4 _ _ _ _ _ _
   | exact endonymref1_Sum.mono _ _
   | exact wire_Joined.mono _ _
   | exact wire_Sum.mono _ _
   | exact LeO.none _
   | refine LeO.ite ?_ ?_
   | refine LeO.bind ?_ (fun _ => ?_)
  ·intro y0 y1 y2 y3 y4
   unfold endonymlaw1_WireSums.j2
   repeat' first
   | (with_reducible exact ih0 _ _ _ _ _)
   | (with_reducible exact ih1 _ _ _ _ _ _)
   | (with_reducible exact ih2 _ _ _ _ _)
   | (with_reducible exact ih3 _ _ _ _ _)
   | (with_reducible exact ih4 _ _ _ _ _ _)
   | (with_reducible exact endonymref1_Sum.mono _ _)
   | (with_reducible exact wire_Joined.mono _ _)
   | (with_reducible exact wire_Sum.mono _ _)
   | (with_reducible exact LeO.refl _)
   | (with_reducible exact LeO.none _)
   | (with_reducible refine LeO.ite ?_ ?_)
   | (with_reducible refine LeO.bind ?_ (fun _ => ?_))
   | exact ih0 _ _ _ _ _
   | exact ih1 _ _ _ _ _ _
   | exact ih2 _ _ _ _ _
   | exact ih3 _ _ _ _ _
   | exact ih4 _ _ _ _ _ _
   | exact endonymref1_Sum.mono _ _
   | exact wire_Joined.mono _ _
   | exact wire_Sum.mono _ _
   | exact LeO.none _
   | refine LeO.ite ?_ ?_
   | refine LeO.bind ?_ (fun _ => ?_)
  ·intro y0 y1 y2 y3 y4
   unfold endonymlaw1_WireSums.l1
   repeat' first
   | (with_reducible exact ih0 _ _ _ _ _)
   | (with_reducible exact ih1 _ _ _ _ _ _)
   | (with_reducible exact ih2 _ _ _ _ _)
   | (with_reducible exact ih3 _ _ _ _ _)
   | (with_reducible exact ih4 _ _ _ _ _ _)
   | (with_reducible exact endonymref1_Sum.mono _ _)
   | (with_reducible exact wire_Joined.mono _ _)
   | (with_reducible exact wire_Sum.mono _ _)
   | (with_reducible exact LeO.refl _)
   | (with_reducible exact LeO.none _)
   | (with_reducible refine LeO.ite ?_ ?_)
   | (with_reducible refine LeO.bind ?_ (fun _ => ?_))
   | exact ih0 _ _ _ _ _
   | exact ih1 _ _ _ _ _ _
   | exact ih2 _ _ _ _ _
   | exact ih3 _ _ _ _ _
   | exact ih4 _ _ _ _ _ _
   | exact endonymref1_Sum.mono _ _
   | exact wire_Joined.mono _ _
   | exact wire_Sum.mono _ _
   | exact LeO.none _
   | refine LeO.ite ?_ ?_
   | refine LeO.bind ?_ (fun _ => ?_)
  ·intro y0 y1 y2 y3 y4 y5
   unfold endonymlaw1_WireSums.l2
   repeat' first
   | (with_reducible exact ih0 _ _ _ _ _)
   | (with_reducible exact ih1 _ _ _ _ _ _)
   | (with_reducible exact ih2 _ _ _ _ _)
   | (with_reducible exact ih3 _ _ _ _ _)
   | (with_reducible exact ih4 _ _ _ _ _ _)
   | (with_reducible exact endonymref1_Sum.mono _ _)
   | (with_reducible exact wire_Joined.mono _ _)
   | (with_reducible exact wire_Sum.mono _ _)
   | (with_reducible exact LeO.refl _)
   | (with_reducible exact LeO.none _)
   | (with_reducible refine LeO.ite ?_ ?_)
   | (with_reducible refine LeO.bind ?_ (fun _ => ?_))
   | exact ih0 _ _ _ _ _
   | exact ih1 _ _ _ _ _ _
   | exact ih2 _ _ _ _ _
   | exact ih3 _ _ _ _ _
   | exact ih4 _ _ _ _ _ _
   | exact endonymref1_Sum.mono _ _
   | exact wire_Joined.mono _ _
   | exact wire_Sum.mono _ _
   | exact LeO.none _
   | refine LeO.ite ?_ ?_
   | refine LeO.bind ?_ (fun _ => ?_)
theorem endonymlaw1_WireSums.mono : ∀ a0 a1 k, LeO (endonymlaw1_WireSums.f k a0 a1) (endonymlaw1_WireSums.f (k + 1) a0 a1) := by
 intro a0 a1 k
 obtain ⟨ih0, ih1, ih2, ih3, ih4⟩ := endonymlaw1_WireSums.mono_l k
 unfold endonymlaw1_WireSums.f
 repeat' first
   | (with_reducible exact ih0 _ _ _ _ _)
   | (with_reducible exact ih1 _ _ _ _ _ _)
   | (with_reducible exact ih2 _ _ _ _ _)
   | (with_reducible exact ih3 _ _ _ _ _)
   | (with_reducible exact ih4 _ _ _ _ _ _)
   | (with_reducible exact endonymref1_Sum.mono _ _)
   | (with_reducible exact wire_Joined.mono _ _)
   | (with_reducible exact wire_Sum.mono _ _)
   | (with_reducible exact LeO.refl _)
   | (with_reducible exact LeO.none _)
   | (with_reducible refine LeO.ite ?_ ?_)
   | (with_reducible refine LeO.bind ?_ (fun _ => ?_))
   | exact ih0 _ _ _ _ _
   | exact ih1 _ _ _ _ _ _
   | exact ih2 _ _ _ _ _
   | exact ih3 _ _ _ _ _
   | exact ih4 _ _ _ _ _ _
   | exact endonymref1_Sum.mono _ _
   | exact wire_Joined.mono _ _
   | exact wire_Sum.mono _ _
   | exact LeO.none _
   | refine LeO.ite ?_ ?_
   | refine LeO.bind ?_ (fun _ => ?_)
set_option maxHeartbeats 8000000 in
set_option maxRecDepth 100000 in
theorem endonymlaw1_WireSums.calls (k : Nat) (A0 : Option Addr) (c0 : Nat) (l0 : List Int) (A1 : Option Addr) (c1 : Nat) (l1 : List Int) (r : Bool) (w : World) (hr0 : Kd.C (Kd.int .u8) w A0 l0.length l0) (hc0 : l0.length ≤ c0) (hr1 : Kd.C (Kd.int .i64) w A1 l1.length l1) (hc1 : l1.length ≤ c1) (h : endonymlaw1_WireSums.f k l0 l1 = some r) :
  Calls Try.prog 7 #[.slice A0 l0.length c0, .slice A1 l1.length c1] w fun e w' => e = .returned (.bool r) ∧ Below w.heap.size w w' := by
 have HR0 := Aside0.mk hr0
 have HC0 := Aside0.mk hc0
 clear hr0 hc0
 have HR1 := Aside0.mk hr1
 have HC1 := Aside0.mk hc1
 clear hr1 hc1
 have HB := Aside0.mk (Below.refl w.heap.size w)
 have H : (endonymlaw1_WireSums.l0 k l0 l1 ([] : List (List Int)) 0 0) = some r := h
 clear h
 have H' := Aside0.mk H
 clear H
 go_enter Try.func7, Try.ntmps7
 go_wp2
 repeat (go_quiet (fail); try go_wp2)
 go_loopg [5, 6, 7] k (fun kq v5 v6 v7 w' => ∃ (x5_1 : List (List Int)) (x6_1 : Int) (x7_1 : Int), v6 = .int .i64 x6_1 ∧ v7 = .int .i64 x7_1 ∧ Aside0 (endonymlaw1_WireSums.l0 kq l0 l1 x5_1 x6_1 x7_1 = some r) ∧ Aside0 (kq ≤ k) ∧ Aside0 (Kd.S KM 22 w' w.heap.size (fun _ => True) v5 x5_1) ∧ Aside0 (Below w.heap.size w w'))
 case atStart => exact ⟨(([] : List (List Int))), (0), (0), (by first | rfl | (simp; done) | (simp [*]; done)), (by first | rfl | (simp; done) | (simp [*]; done)), H', ⟨Nat.le_refl _⟩, ⟨by first | exact Kd.S_nil _ _ _ _ _ | exact Kd.N_nil _ _ _ _ _ | exact Kd.V_nil _ _ _ _ _ | exact Kd.Q_nil _ _ _ _ _ | exact Kd.R_nil _ _ _ _ _⟩, ⟨by repeat (first | (with_reducible first | exact HB.out | apply below_alloc | apply pw_below_drewN | apply below_drew1) | exact HB.out)⟩⟩
 case round =>
  clear H'
  try clear c1
  try clear p2
  obtain ⟨x5_1, x6_1, x7_1, rfl, rfl, HA, HK1, HO_5, HB⟩ := hrel
  cases gk with
  | zero => exact absurd HA.out (by simp [endonymlaw1_WireSums.l0])
  | succ k1 =>
   have H := HA.out
   clear HA
   simp only [endonymlaw1_WireSums.l0] at H
   have HC3 := Aside0.mk H
   clear H
   go_upto_region 4 with (fail)
   repeat (go_quiet (fail); go_upto_region 4 with (fail))
   go_cut [23] (fun v23 wc => ∃ (kq : Nat) (x23_2 : Bool), v23 = .bool x23_2 ∧ Aside0 (endonymlaw1_WireSums.j1 kq l0 l1 x5_1 x6_1 x7_1 x23_2 = some r) ∧ Aside0 (kq ≤ k1) ∧ Aside0 (Kd.S KM 22 wc w.heap.size (fun _ => True) u5 x5_1) ∧ Aside0 (Below w.heap.size w wc))
   case first =>
    have H := HC3.out
    clear HC3
    by_cases c4 : x7_1 < (l1.length : Int)
    ·rw [if_pos c4] at H
     have c4b0 : decide (x7_1 < (l1.length : Int)) = true := decide_eq_true c4
     clear c4
     (first | rw [c4b0] | (simp only [i64_w, i32_w]; rw [c4b0]) | skip)
     have H' := Aside0.mk H
     clear H
     go_wp2
     repeat (go_quiet (fail); try go_wp2)
     go_meet
     case rel => exact ⟨_, (decide (x7_1 < 40)), (by first | rfl | (simp; done) | (simp [*]; done)), H', ⟨by have := HK1.out; first | omega | exact Nat.le_refl _⟩, ⟨by (with_reducible repeat (first | apply Kd.S_alloc | apply Kd.S_drewN | apply Kd.S_drew)); exact HO_5.out⟩, ⟨by repeat (first | (with_reducible first | exact HB.out | apply below_alloc | apply pw_below_drewN | apply below_drew1) | exact HB.out)⟩⟩
    ·rw [if_neg c4] at H
     have c4b0 : decide (x7_1 < (l1.length : Int)) = false := decide_eq_false c4
     clear c4
     (first | rw [c4b0] | (simp only [i64_w, i32_w]; rw [c4b0]) | skip)
     have H' := Aside0.mk H
     clear H
     go_wp2
     repeat (go_quiet (fail); try go_wp2)
     go_meet
     case rel => exact ⟨_, (false), (by first | rfl | (simp; done) | (simp [*]; done)), H', ⟨by have := HK1.out; first | omega | exact Nat.le_refl _⟩, ⟨by (with_reducible repeat (first | apply Kd.S_alloc | apply Kd.S_drewN | apply Kd.S_drew)); exact HO_5.out⟩, ⟨by repeat (first | (with_reducible first | exact HB.out | apply below_alloc | apply pw_below_drewN | apply below_drew1) | exact HB.out)⟩⟩
   case rest =>
    clear HC3
    try clear c1
    try clear p2
    try clear c4
    try clear c4b0
    try clear p2
    obtain ⟨kq, x23_2, rfl, HA, HJ2, HO_5, HB⟩ := hcut
    cases kq with
    | zero => exact absurd HA.out (by simp [endonymlaw1_WireSums.j1])
    | succ kj2 =>
     have H := HA.out
     clear HA
     simp only [endonymlaw1_WireSums.j1] at H
     by_cases c5 : x23_2 = true
     ·subst c5
      have H1 : (if 0 ≤ x7_1 then (if x7_1 < (l1.length : Int) then (if (wrap64 (x6_1 + (Go.bits .and .i64 (rd l1 x7_1) 63))) > (l0.length : Int) then (if 0 ≤ x6_1 then (if x6_1 ≤ (l0.length : Int) then (if (l0.length : Int) ≤ (l0.length : Int) then ((endonymlaw1_roomy.f ((l0.take ((l0.length : Int) : Int).toNat).drop (x6_1 : Int).toNat)).bind fun t121 => (if x5_1.length < 5864062014805 then (endonymlaw1_WireSums.l0 kj2 l0 l1 (x5_1 ++ [t121]) (l0.length : Int) (wrap64 (x7_1 + 1))) else (none))) else (none)) else (none)) else (none)) else (if 0 ≤ x6_1 then (if x6_1 ≤ (wrap64 (x6_1 + (Go.bits .and .i64 (rd l1 x7_1) 63))) then (if (wrap64 (x6_1 + (Go.bits .and .i64 (rd l1 x7_1) 63))) ≤ (l0.length : Int) then ((endonymlaw1_roomy.f ((l0.take ((wrap64 (x6_1 + (Go.bits .and .i64 (rd l1 x7_1) 63))) : Int).toNat).drop (x6_1 : Int).toNat)).bind fun t128 => (if x5_1.length < 5864062014805 then (endonymlaw1_WireSums.l0 kj2 l0 l1 (x5_1 ++ [t128]) (wrap64 (x6_1 + (Go.bits .and .i64 (rd l1 x7_1) 63))) (wrap64 (x7_1 + 1))) else (none))) else (none)) else (none)) else (none))) else (none)) else (none)) = some r := by rw [if_pos rfl] at H; exact H
      clear H
      have H := H1
      clear H1
      by_cases c6 : 0 ≤ x7_1
      ·rw [if_pos c6] at H
       have c6b0 : decide (0 ≤ x7_1) = true := decide_eq_true c6
       clear c6
       by_cases c7 : x7_1 < (l1.length : Int)
       ·rw [if_pos c7] at H
        have c7b0 : decide (x7_1 < (l1.length : Int)) = true := decide_eq_true c7
        clear c7
        by_cases c8 : (wrap64 (x6_1 + (Go.bits .and .i64 (rd l1 x7_1) 63))) > (l0.length : Int)
        ·rw [if_pos c8] at H
         have c8b0 : decide ((l0.length : Int) < (wrap64 (x6_1 + (Go.bits .and .i64 (rd l1 x7_1) 63)))) = true := decide_eq_true c8
         clear c8
         by_cases c9 : 0 ≤ x6_1
         ·rw [if_pos c9] at H
          have c9b0 := eq_true c9
          have c9b1 : decide (0 ≤ x6_1) = true := decide_eq_true c9
          clear c9
          by_cases c10 : x6_1 ≤ (l0.length : Int)
          ·rw [if_pos c10] at H
           have c10b0 := eq_true c10
           have c10b1 : decide (x6_1 ≤ (l0.length : Int)) = true := decide_eq_true c10
           clear c10
           by_cases c11 : (l0.length : Int) ≤ (l0.length : Int)
           ·rw [if_pos c11] at H
            have c11b0 := eq_true c11
            have c11b1 : decide ((l0.length : Int) ≤ (l0.length : Int)) = true := decide_eq_true c11
            clear c11
            replace H := Option.bind_eq_some_iff.mp H
            obtain ⟨t121, A120, H⟩ := H
            replace H : (if x5_1.length < 5864062014805 then (endonymlaw1_WireSums.l0 kj2 l0 l1 (x5_1 ++ [t121]) (l0.length : Int) (wrap64 (x7_1 + 1))) else (none)) = some r := H
            have A12 := Aside0.mk A120
            clear A120
            by_cases c13 : x5_1.length < 5864062014805
            ·rw [if_pos c13] at H
             have LMc13 := Aside0.mk c13
             clear c13
             obtain ⟨y124, hy124⟩ : ∃ y_ : List (List Int), y_ = (x5_1 ++ [t121]) := ⟨_, rfl⟩
             replace H : (endonymlaw1_WireSums.l0 kj2 l0 l1 y124 (l0.length : Int) (wrap64 (x7_1 + 1))) = some r := by first | (rw [hy124]; with_reducible exact H) | (have H2_ := (Option.bind_some _ _).symm.trans H; rw [hy124]; with_reducible exact H2_) | (have H2_ := (Option.bind_some _ _).symm.trans H; with_reducible exact H2_) | with_reducible exact H | (rw [hy124]; exact H) | exact H
             have Ny124 := Aside0.mk hy124
             clear hy124
             have H' := Aside0.mk H
             clear H
             have p119 : 0 ≤ (x7_1 : Int) := of_decide_eq_true (by first | (with_reducible assumption) | assumption)
             have q119 : x7_1 < (l1.length : Int) := of_decide_eq_true (by first | (with_reducible assumption) | assumption)
             obtain ⟨ad119, e119, hx119_0⟩ := Kd.at_int HR1.out x7_1 p119 q119
             cases e119
             replace hx119_0 := (HB.out.cell (World.block_lt_of_cell? w _ hx119_0)).trans hx119_0
             replace p119 := eq_true p119
             replace q119 := eq_true q119
             obtain ⟨i014, hi014, _, hsz14, _⟩ := info_parts info5
             obtain ⟨A14, hcut14, hA14, hC14⟩ := print_mid_of (P := Try.prog) (Value.int .u8) 0 22 5 .i64 .i64 Try.underlying22 hi014 hsz14 A0 c0 l0 x6_1 (l0.length : Int) (of_decide_eq_true (by first | (with_reducible assumption) | assumption)) (by first | omega | exact of_decide_eq_true (by first | (with_reducible assumption) | assumption)) (of_decide_eq_true (by first | (with_reducible assumption) | assumption)) HC0.out
             have HR120 := Aside0.mk (Kd.C_of_reads (h1 := fun _ => rfl) (hA14 _ (Kd.reads_of_C HR0.out)))
             have HC120 := Aside0.mk hC14
             clear hA14 hC14 hi014 hsz14
             go_wp2_with (first | (go_at_call 11; (with_reducible refine (endonymlaw1_roomy.calls2 _ _ ((l0.take ((l0.length : Int) : Int).toNat).drop (x6_1 : Int).toNat) t121 _ ?side1 ?side2 A12.out _ (by first | rfl | (simp only [List.length_drop, List.length_take]; first | done | omega | (simp only [decide_eq_true_eq] at *; omega)))).mono ?_); (case side1 => repeat (first | exact (Kd.C_below HR120.out HB.out) | (with_reducible refine Kd.C_alloc ?_ _) | (with_reducible refine Kd.C_drewN ?_ _) | (with_reducible refine Kd.C_drew ?_))); (case side2 => exact HC120.out); rintro e w15 ⟨GAo17, co17, rfl, ho0, hb⟩; have n0_ := Aside0.mk (Kd.S_elder' (by (with_reducible repeat (first | apply Kd.S_alloc | apply Kd.S_drewN | apply Kd.S_drew)); exact HO_5.out) (Kd.R_base ho0) hb); have n1_ := Aside0.mk (Kd.R_lower ho0 (below_size (by repeat (first | (with_reducible first | exact HB.out | apply below_alloc | apply pw_below_drewN | apply below_drew1) | exact HB.out)))); have n2_ := Aside0.mk (below_step (by repeat (first | (with_reducible first | exact HB.out | apply below_alloc | apply pw_below_drewN | apply below_drew1) | exact HB.out)) hb); clear HO_5; clear HB; have HO_5 := n0_; have HO123 := n1_; have HB := n2_; clear n0_ n1_ n2_; (try clear hb); (try clear hb2); (try clear hk); (try clear hi); (try clear ho0)) | ((with_reducible refine gate_builtin (b := .append) (xs := #[.tmp 39, .tmp 45]) rfl ?_); at_builtin; refine Kd.S_append KM (w0 := w) w.heap.size rfl (.tmp 39) (.tmp 45) 46 22 (.slice none 0 0) 24 rfl Try.underlying46 info22 rfl (by decide) (by omega) u5 x5_1 t121 [.slice (some ⟨GAo17, 0, none⟩) t121.length co17] (fun _ => True) (fun k_ => some k_ = (.slice (some ⟨GAo17, 0, none⟩) t121.length co17 : Value).ownBlock) rfl rfl ?aP (fun k_ hk_ => ((Kd.R_mono (ok' := fun k_ => ((fun _ => True)) k_ ∧ some k_ ≠ (u5 : Value).ownBlock) (Kd.R_apart' (HO123.out) (Kd.S_typed HO_5.out) (by decide)) (fun k_ hk => ⟨trivial, hk.2⟩))).1 k_ hk_.symm) ?aF ?aO ?aB ?aS ?aL ?_; (case aP => exact KM_row (Kd.R_mono (Kd.R_tight rfl (Kd.R_mono (ok' := fun k_ => ((fun _ => True)) k_ ∧ some k_ ≠ (u5 : Value).ownBlock) (Kd.R_apart' (HO123.out) (Kd.S_typed HO_5.out) (by decide)) (fun k_ hk => ⟨trivial, hk.2⟩))) (fun _ h_ => h_))); (case aB => exact (by repeat (first | (with_reducible first | exact HB.out | apply below_alloc | apply pw_below_drewN | apply below_drew1) | exact HB.out))); (case aF => exact (fun _ _ => trivial)); (case aO => exact (by (with_reducible repeat (first | apply Kd.S_alloc | apply Kd.S_drewN | apply Kd.S_drew)); exact Kd.S_mono HO_5.out (fun k_ hk => ⟨trivial, fun e_ => hk.2 e_⟩))); (case aS => exact (below_size (by repeat (first | (with_reducible first | exact HB.out | apply below_alloc | apply pw_below_drewN | apply below_drew1) | exact HB.out)))); (case aL => have := LMc13.out; omega); intro v125 w16 ho hb hg hat; rw [← Ny124.out] at ho; have n0_ := Aside0.mk (hb); have n1_ := Aside0.mk (ho); clear HB; clear HO_5; clear HO123; have HB := n0_; have HO126 := n1_; clear n0_ n1_; clear ho hb hg hat))
             repeat (go_quiet (first | (go_at_call 11; (with_reducible refine (endonymlaw1_roomy.calls2 _ _ ((l0.take ((l0.length : Int) : Int).toNat).drop (x6_1 : Int).toNat) t121 _ ?side1 ?side2 A12.out _ (by first | rfl | (simp only [List.length_drop, List.length_take]; first | done | omega | (simp only [decide_eq_true_eq] at *; omega)))).mono ?_); (case side1 => repeat (first | exact (Kd.C_below HR120.out HB.out) | (with_reducible refine Kd.C_alloc ?_ _) | (with_reducible refine Kd.C_drewN ?_ _) | (with_reducible refine Kd.C_drew ?_))); (case side2 => exact HC120.out); rintro e w15 ⟨GAo17, co17, rfl, ho0, hb⟩; have n0_ := Aside0.mk (Kd.S_elder' (by (with_reducible repeat (first | apply Kd.S_alloc | apply Kd.S_drewN | apply Kd.S_drew)); exact HO_5.out) (Kd.R_base ho0) hb); have n1_ := Aside0.mk (Kd.R_lower ho0 (below_size (by repeat (first | (with_reducible first | exact HB.out | apply below_alloc | apply pw_below_drewN | apply below_drew1) | exact HB.out)))); have n2_ := Aside0.mk (below_step (by repeat (first | (with_reducible first | exact HB.out | apply below_alloc | apply pw_below_drewN | apply below_drew1) | exact HB.out)) hb); clear HO_5; clear HB; have HO_5 := n0_; have HO123 := n1_; have HB := n2_; clear n0_ n1_ n2_; (try clear hb); (try clear hb2); (try clear hk); (try clear hi); (try clear ho0)) | ((with_reducible refine gate_builtin (b := .append) (xs := #[.tmp 39, .tmp 45]) rfl ?_); at_builtin; refine Kd.S_append KM (w0 := w) w.heap.size rfl (.tmp 39) (.tmp 45) 46 22 (.slice none 0 0) 24 rfl Try.underlying46 info22 rfl (by decide) (by omega) u5 x5_1 t121 [.slice (some ⟨GAo17, 0, none⟩) t121.length co17] (fun _ => True) (fun k_ => some k_ = (.slice (some ⟨GAo17, 0, none⟩) t121.length co17 : Value).ownBlock) rfl rfl ?aP (fun k_ hk_ => ((Kd.R_mono (ok' := fun k_ => ((fun _ => True)) k_ ∧ some k_ ≠ (u5 : Value).ownBlock) (Kd.R_apart' (HO123.out) (Kd.S_typed HO_5.out) (by decide)) (fun k_ hk => ⟨trivial, hk.2⟩))).1 k_ hk_.symm) ?aF ?aO ?aB ?aS ?aL ?_; (case aP => exact KM_row (Kd.R_mono (Kd.R_tight rfl (Kd.R_mono (ok' := fun k_ => ((fun _ => True)) k_ ∧ some k_ ≠ (u5 : Value).ownBlock) (Kd.R_apart' (HO123.out) (Kd.S_typed HO_5.out) (by decide)) (fun k_ hk => ⟨trivial, hk.2⟩))) (fun _ h_ => h_))); (case aB => exact (by repeat (first | (with_reducible first | exact HB.out | apply below_alloc | apply pw_below_drewN | apply below_drew1) | exact HB.out))); (case aF => exact (fun _ _ => trivial)); (case aO => exact (by (with_reducible repeat (first | apply Kd.S_alloc | apply Kd.S_drewN | apply Kd.S_drew)); exact Kd.S_mono HO_5.out (fun k_ hk => ⟨trivial, fun e_ => hk.2 e_⟩))); (case aS => exact (below_size (by repeat (first | (with_reducible first | exact HB.out | apply below_alloc | apply pw_below_drewN | apply below_drew1) | exact HB.out)))); (case aL => have := LMc13.out; omega); intro v125 w16 ho hb hg hat; rw [← Ny124.out] at ho; have n0_ := Aside0.mk (hb); have n1_ := Aside0.mk (ho); clear HB; clear HO_5; clear HO123; have HB := n0_; have HO126 := n1_; clear n0_ n1_; clear ho hb hg hat)); try go_wp2_with (first | (go_at_call 11; (with_reducible refine (endonymlaw1_roomy.calls2 _ _ ((l0.take ((l0.length : Int) : Int).toNat).drop (x6_1 : Int).toNat) t121 _ ?side1 ?side2 A12.out _ (by first | rfl | (simp only [List.length_drop, List.length_take]; first | done | omega | (simp only [decide_eq_true_eq] at *; omega)))).mono ?_); (case side1 => repeat (first | exact (Kd.C_below HR120.out HB.out) | (with_reducible refine Kd.C_alloc ?_ _) | (with_reducible refine Kd.C_drewN ?_ _) | (with_reducible refine Kd.C_drew ?_))); (case side2 => exact HC120.out); rintro e w15 ⟨GAo17, co17, rfl, ho0, hb⟩; have n0_ := Aside0.mk (Kd.S_elder' (by (with_reducible repeat (first | apply Kd.S_alloc | apply Kd.S_drewN | apply Kd.S_drew)); exact HO_5.out) (Kd.R_base ho0) hb); have n1_ := Aside0.mk (Kd.R_lower ho0 (below_size (by repeat (first | (with_reducible first | exact HB.out | apply below_alloc | apply pw_below_drewN | apply below_drew1) | exact HB.out)))); have n2_ := Aside0.mk (below_step (by repeat (first | (with_reducible first | exact HB.out | apply below_alloc | apply pw_below_drewN | apply below_drew1) | exact HB.out)) hb); clear HO_5; clear HB; have HO_5 := n0_; have HO123 := n1_; have HB := n2_; clear n0_ n1_ n2_; (try clear hb); (try clear hb2); (try clear hk); (try clear hi); (try clear ho0)) | ((with_reducible refine gate_builtin (b := .append) (xs := #[.tmp 39, .tmp 45]) rfl ?_); at_builtin; refine Kd.S_append KM (w0 := w) w.heap.size rfl (.tmp 39) (.tmp 45) 46 22 (.slice none 0 0) 24 rfl Try.underlying46 info22 rfl (by decide) (by omega) u5 x5_1 t121 [.slice (some ⟨GAo17, 0, none⟩) t121.length co17] (fun _ => True) (fun k_ => some k_ = (.slice (some ⟨GAo17, 0, none⟩) t121.length co17 : Value).ownBlock) rfl rfl ?aP (fun k_ hk_ => ((Kd.R_mono (ok' := fun k_ => ((fun _ => True)) k_ ∧ some k_ ≠ (u5 : Value).ownBlock) (Kd.R_apart' (HO123.out) (Kd.S_typed HO_5.out) (by decide)) (fun k_ hk => ⟨trivial, hk.2⟩))).1 k_ hk_.symm) ?aF ?aO ?aB ?aS ?aL ?_; (case aP => exact KM_row (Kd.R_mono (Kd.R_tight rfl (Kd.R_mono (ok' := fun k_ => ((fun _ => True)) k_ ∧ some k_ ≠ (u5 : Value).ownBlock) (Kd.R_apart' (HO123.out) (Kd.S_typed HO_5.out) (by decide)) (fun k_ hk => ⟨trivial, hk.2⟩))) (fun _ h_ => h_))); (case aB => exact (by repeat (first | (with_reducible first | exact HB.out | apply below_alloc | apply pw_below_drewN | apply below_drew1) | exact HB.out))); (case aF => exact (fun _ _ => trivial)); (case aO => exact (by (with_reducible repeat (first | apply Kd.S_alloc | apply Kd.S_drewN | apply Kd.S_drew)); exact Kd.S_mono HO_5.out (fun k_ hk => ⟨trivial, fun e_ => hk.2 e_⟩))); (case aS => exact (below_size (by repeat (first | (with_reducible first | exact HB.out | apply below_alloc | apply pw_below_drewN | apply below_drew1) | exact HB.out)))); (case aL => have := LMc13.out; omega); intro v125 w16 ho hb hg hat; rw [← Ny124.out] at ho; have n0_ := Aside0.mk (hb); have n1_ := Aside0.mk (ho); clear HB; clear HO_5; clear HO123; have HB := n0_; have HO126 := n1_; clear n0_ n1_; clear ho hb hg hat)))
             go_roundg kj2
             case measure => have := HK1.out; have := HJ2.out; omega
             case rel => exact ⟨(y124), ((l0.length : Int)), (wrap64 (x7_1 + 1)), (by first | rfl | (simp; done) | (simp [*]; done)), (by first | rfl | (simp; done) | (simp [*]; done)), H', ⟨by have := HK1.out; have := HJ2.out; omega⟩, ⟨by (with_reducible repeat (first | apply Kd.S_alloc | apply Kd.S_drewN | apply Kd.S_drew)); exact HO126.out⟩, ⟨by repeat (first | (with_reducible first | exact HB.out | apply below_alloc | apply pw_below_drewN | apply below_drew1) | exact HB.out)⟩⟩
            ·rw [if_neg c13] at H
             exact absurd H (by simp)
           ·rw [if_neg c11] at H
            exact absurd H (by simp)
          ·rw [if_neg c10] at H
           exact absurd H (by simp)
         ·rw [if_neg c9] at H
          exact absurd H (by simp)
        ·rw [if_neg c8] at H
         have c8b0 : decide ((l0.length : Int) < (wrap64 (x6_1 + (Go.bits .and .i64 (rd l1 x7_1) 63)))) = false := decide_eq_false c8
         clear c8
         by_cases c18 : 0 ≤ x6_1
         ·rw [if_pos c18] at H
          have c18b0 := eq_true c18
          have c18b1 : decide (0 ≤ x6_1) = true := decide_eq_true c18
          clear c18
          by_cases c19 : x6_1 ≤ (wrap64 (x6_1 + (Go.bits .and .i64 (rd l1 x7_1) 63)))
          ·rw [if_pos c19] at H
           have c19b0 := eq_true c19
           have c19b1 : decide (x6_1 ≤ (wrap64 (x6_1 + (Go.bits .and .i64 (rd l1 x7_1) 63)))) = true := decide_eq_true c19
           by_cases c20 : (wrap64 (x6_1 + (Go.bits .and .i64 (rd l1 x7_1) 63))) ≤ (l0.length : Int)
           ·rw [if_pos c20] at H
            have c20b0 := eq_true c20
            have c20b1 : decide ((wrap64 (x6_1 + (Go.bits .and .i64 (rd l1 x7_1) 63))) ≤ (l0.length : Int)) = true := decide_eq_true c20
            replace H := Option.bind_eq_some_iff.mp H
            obtain ⟨t128, A210, H⟩ := H
            replace H : (if x5_1.length < 5864062014805 then (endonymlaw1_WireSums.l0 kj2 l0 l1 (x5_1 ++ [t128]) (wrap64 (x6_1 + (Go.bits .and .i64 (rd l1 x7_1) 63))) (wrap64 (x7_1 + 1))) else (none)) = some r := H
            have A21 := Aside0.mk A210
            clear A210
            by_cases c22 : x5_1.length < 5864062014805
            ·rw [if_pos c22] at H
             have LMc22 := Aside0.mk c22
             clear c22
             obtain ⟨y131, hy131⟩ : ∃ y_ : List (List Int), y_ = (x5_1 ++ [t128]) := ⟨_, rfl⟩
             replace H : (endonymlaw1_WireSums.l0 kj2 l0 l1 y131 (wrap64 (x6_1 + (Go.bits .and .i64 (rd l1 x7_1) 63))) (wrap64 (x7_1 + 1))) = some r := by first | (rw [hy131]; with_reducible exact H) | (have H2_ := (Option.bind_some _ _).symm.trans H; rw [hy131]; with_reducible exact H2_) | (have H2_ := (Option.bind_some _ _).symm.trans H; with_reducible exact H2_) | with_reducible exact H | (rw [hy131]; exact H) | exact H
             have Ny131 := Aside0.mk hy131
             clear hy131
             have H' := Aside0.mk H
             clear H
             have p119 : 0 ≤ (x7_1 : Int) := of_decide_eq_true (by first | (with_reducible assumption) | assumption)
             have q119 : x7_1 < (l1.length : Int) := of_decide_eq_true (by first | (with_reducible assumption) | assumption)
             obtain ⟨ad119, e119, hx119_0⟩ := Kd.at_int HR1.out x7_1 p119 q119
             cases e119
             replace hx119_0 := (HB.out.cell (World.block_lt_of_cell? w _ hx119_0)).trans hx119_0
             replace p119 := eq_true p119
             replace q119 := eq_true q119
             obtain ⟨i023, hi023, _, hsz23, _⟩ := info_parts info5
             obtain ⟨A23, hcut23, hA23, hC23⟩ := print_mid_of (P := Try.prog) (Value.int .u8) 0 22 5 .i64 .i64 Try.underlying22 hi023 hsz23 A0 c0 l0 x6_1 (wrap64 (x6_1 + (Go.bits .and .i64 (rd l1 x7_1) 63))) (of_decide_eq_true (by first | (with_reducible assumption) | assumption)) (by first | omega | exact of_decide_eq_true (by first | (with_reducible assumption) | assumption)) (of_decide_eq_true (by first | (with_reducible assumption) | assumption)) HC0.out
             have HR127 := Aside0.mk (Kd.C_of_reads (h1 := fun _ => rfl) (hA23 _ (Kd.reads_of_C HR0.out)))
             have HC127 := Aside0.mk hC23
             clear hA23 hC23 hi023 hsz23
             go_wp2_with (first | (go_at_call 11; (with_reducible refine (endonymlaw1_roomy.calls2 _ _ ((l0.take ((wrap64 (x6_1 + (Go.bits .and .i64 (rd l1 x7_1) 63))) : Int).toNat).drop (x6_1 : Int).toNat) t128 _ ?side1 ?side2 A21.out _ (by first | rfl | (simp only [List.length_drop, List.length_take]; first | done | omega | (simp only [decide_eq_true_eq] at *; omega)))).mono ?_); (case side1 => repeat (first | exact (Kd.C_below HR127.out HB.out) | (with_reducible refine Kd.C_alloc ?_ _) | (with_reducible refine Kd.C_drewN ?_ _) | (with_reducible refine Kd.C_drew ?_))); (case side2 => exact HC127.out); rintro e w24 ⟨GAo26, co26, rfl, ho0, hb⟩; have n0_ := Aside0.mk (Kd.S_elder' (by (with_reducible repeat (first | apply Kd.S_alloc | apply Kd.S_drewN | apply Kd.S_drew)); exact HO_5.out) (Kd.R_base ho0) hb); have n1_ := Aside0.mk (Kd.R_lower ho0 (below_size (by repeat (first | (with_reducible first | exact HB.out | apply below_alloc | apply pw_below_drewN | apply below_drew1) | exact HB.out)))); have n2_ := Aside0.mk (below_step (by repeat (first | (with_reducible first | exact HB.out | apply below_alloc | apply pw_below_drewN | apply below_drew1) | exact HB.out)) hb); clear HO_5; clear HB; have HO_5 := n0_; have HO130 := n1_; have HB := n2_; clear n0_ n1_ n2_; (try clear hb); (try clear hb2); (try clear hk); (try clear hi); (try clear ho0)) | ((with_reducible refine gate_builtin (b := .append) (xs := #[.tmp 39, .tmp 45]) rfl ?_); at_builtin; refine Kd.S_append KM (w0 := w) w.heap.size rfl (.tmp 39) (.tmp 45) 46 22 (.slice none 0 0) 24 rfl Try.underlying46 info22 rfl (by decide) (by omega) u5 x5_1 t128 [.slice (some ⟨GAo26, 0, none⟩) t128.length co26] (fun _ => True) (fun k_ => some k_ = (.slice (some ⟨GAo26, 0, none⟩) t128.length co26 : Value).ownBlock) rfl rfl ?aP (fun k_ hk_ => ((Kd.R_mono (ok' := fun k_ => ((fun _ => True)) k_ ∧ some k_ ≠ (u5 : Value).ownBlock) (Kd.R_apart' (HO130.out) (Kd.S_typed HO_5.out) (by decide)) (fun k_ hk => ⟨trivial, hk.2⟩))).1 k_ hk_.symm) ?aF ?aO ?aB ?aS ?aL ?_; (case aP => exact KM_row (Kd.R_mono (Kd.R_tight rfl (Kd.R_mono (ok' := fun k_ => ((fun _ => True)) k_ ∧ some k_ ≠ (u5 : Value).ownBlock) (Kd.R_apart' (HO130.out) (Kd.S_typed HO_5.out) (by decide)) (fun k_ hk => ⟨trivial, hk.2⟩))) (fun _ h_ => h_))); (case aB => exact (by repeat (first | (with_reducible first | exact HB.out | apply below_alloc | apply pw_below_drewN | apply below_drew1) | exact HB.out))); (case aF => exact (fun _ _ => trivial)); (case aO => exact (by (with_reducible repeat (first | apply Kd.S_alloc | apply Kd.S_drewN | apply Kd.S_drew)); exact Kd.S_mono HO_5.out (fun k_ hk => ⟨trivial, fun e_ => hk.2 e_⟩))); (case aS => exact (below_size (by repeat (first | (with_reducible first | exact HB.out | apply below_alloc | apply pw_below_drewN | apply below_drew1) | exact HB.out)))); (case aL => have := LMc22.out; omega); intro v132 w25 ho hb hg hat; rw [← Ny131.out] at ho; have n0_ := Aside0.mk (hb); have n1_ := Aside0.mk (ho); clear HB; clear HO_5; clear HO130; have HB := n0_; have HO133 := n1_; clear n0_ n1_; clear ho hb hg hat))
             repeat (go_quiet (first | (go_at_call 11; (with_reducible refine (endonymlaw1_roomy.calls2 _ _ ((l0.take ((wrap64 (x6_1 + (Go.bits .and .i64 (rd l1 x7_1) 63))) : Int).toNat).drop (x6_1 : Int).toNat) t128 _ ?side1 ?side2 A21.out _ (by first | rfl | (simp only [List.length_drop, List.length_take]; first | done | omega | (simp only [decide_eq_true_eq] at *; omega)))).mono ?_); (case side1 => repeat (first | exact (Kd.C_below HR127.out HB.out) | (with_reducible refine Kd.C_alloc ?_ _) | (with_reducible refine Kd.C_drewN ?_ _) | (with_reducible refine Kd.C_drew ?_))); (case side2 => exact HC127.out); rintro e w24 ⟨GAo26, co26, rfl, ho0, hb⟩; have n0_ := Aside0.mk (Kd.S_elder' (by (with_reducible repeat (first | apply Kd.S_alloc | apply Kd.S_drewN | apply Kd.S_drew)); exact HO_5.out) (Kd.R_base ho0) hb); have n1_ := Aside0.mk (Kd.R_lower ho0 (below_size (by repeat (first | (with_reducible first | exact HB.out | apply below_alloc | apply pw_below_drewN | apply below_drew1) | exact HB.out)))); have n2_ := Aside0.mk (below_step (by repeat (first | (with_reducible first | exact HB.out | apply below_alloc | apply pw_below_drewN | apply below_drew1) | exact HB.out)) hb); clear HO_5; clear HB; have HO_5 := n0_; have HO130 := n1_; have HB := n2_; clear n0_ n1_ n2_; (try clear hb); (try clear hb2); (try clear hk); (try clear hi); (try clear ho0)) | ((with_reducible refine gate_builtin (b := .append) (xs := #[.tmp 39, .tmp 45]) rfl ?_); at_builtin; refine Kd.S_append KM (w0 := w) w.heap.size rfl (.tmp 39) (.tmp 45) 46 22 (.slice none 0 0) 24 rfl Try.underlying46 info22 rfl (by decide) (by omega) u5 x5_1 t128 [.slice (some ⟨GAo26, 0, none⟩) t128.length co26] (fun _ => True) (fun k_ => some k_ = (.slice (some ⟨GAo26, 0, none⟩) t128.length co26 : Value).ownBlock) rfl rfl ?aP (fun k_ hk_ => ((Kd.R_mono (ok' := fun k_ => ((fun _ => True)) k_ ∧ some k_ ≠ (u5 : Value).ownBlock) (Kd.R_apart' (HO130.out) (Kd.S_typed HO_5.out) (by decide)) (fun k_ hk => ⟨trivial, hk.2⟩))).1 k_ hk_.symm) ?aF ?aO ?aB ?aS ?aL ?_; (case aP => exact KM_row (Kd.R_mono (Kd.R_tight rfl (Kd.R_mono (ok' := fun k_ => ((fun _ => True)) k_ ∧ some k_ ≠ (u5 : Value).ownBlock) (Kd.R_apart' (HO130.out) (Kd.S_typed HO_5.out) (by decide)) (fun k_ hk => ⟨trivial, hk.2⟩))) (fun _ h_ => h_))); (case aB => exact (by repeat (first | (with_reducible first | exact HB.out | apply below_alloc | apply pw_below_drewN | apply below_drew1) | exact HB.out))); (case aF => exact (fun _ _ => trivial)); (case aO => exact (by (with_reducible repeat (first | apply Kd.S_alloc | apply Kd.S_drewN | apply Kd.S_drew)); exact Kd.S_mono HO_5.out (fun k_ hk => ⟨trivial, fun e_ => hk.2 e_⟩))); (case aS => exact (below_size (by repeat (first | (with_reducible first | exact HB.out | apply below_alloc | apply pw_below_drewN | apply below_drew1) | exact HB.out)))); (case aL => have := LMc22.out; omega); intro v132 w25 ho hb hg hat; rw [← Ny131.out] at ho; have n0_ := Aside0.mk (hb); have n1_ := Aside0.mk (ho); clear HB; clear HO_5; clear HO130; have HB := n0_; have HO133 := n1_; clear n0_ n1_; clear ho hb hg hat)); try go_wp2_with (first | (go_at_call 11; (with_reducible refine (endonymlaw1_roomy.calls2 _ _ ((l0.take ((wrap64 (x6_1 + (Go.bits .and .i64 (rd l1 x7_1) 63))) : Int).toNat).drop (x6_1 : Int).toNat) t128 _ ?side1 ?side2 A21.out _ (by first | rfl | (simp only [List.length_drop, List.length_take]; first | done | omega | (simp only [decide_eq_true_eq] at *; omega)))).mono ?_); (case side1 => repeat (first | exact (Kd.C_below HR127.out HB.out) | (with_reducible refine Kd.C_alloc ?_ _) | (with_reducible refine Kd.C_drewN ?_ _) | (with_reducible refine Kd.C_drew ?_))); (case side2 => exact HC127.out); rintro e w24 ⟨GAo26, co26, rfl, ho0, hb⟩; have n0_ := Aside0.mk (Kd.S_elder' (by (with_reducible repeat (first | apply Kd.S_alloc | apply Kd.S_drewN | apply Kd.S_drew)); exact HO_5.out) (Kd.R_base ho0) hb); have n1_ := Aside0.mk (Kd.R_lower ho0 (below_size (by repeat (first | (with_reducible first | exact HB.out | apply below_alloc | apply pw_below_drewN | apply below_drew1) | exact HB.out)))); have n2_ := Aside0.mk (below_step (by repeat (first | (with_reducible first | exact HB.out | apply below_alloc | apply pw_below_drewN | apply below_drew1) | exact HB.out)) hb); clear HO_5; clear HB; have HO_5 := n0_; have HO130 := n1_; have HB := n2_; clear n0_ n1_ n2_; (try clear hb); (try clear hb2); (try clear hk); (try clear hi); (try clear ho0)) | ((with_reducible refine gate_builtin (b := .append) (xs := #[.tmp 39, .tmp 45]) rfl ?_); at_builtin; refine Kd.S_append KM (w0 := w) w.heap.size rfl (.tmp 39) (.tmp 45) 46 22 (.slice none 0 0) 24 rfl Try.underlying46 info22 rfl (by decide) (by omega) u5 x5_1 t128 [.slice (some ⟨GAo26, 0, none⟩) t128.length co26] (fun _ => True) (fun k_ => some k_ = (.slice (some ⟨GAo26, 0, none⟩) t128.length co26 : Value).ownBlock) rfl rfl ?aP (fun k_ hk_ => ((Kd.R_mono (ok' := fun k_ => ((fun _ => True)) k_ ∧ some k_ ≠ (u5 : Value).ownBlock) (Kd.R_apart' (HO130.out) (Kd.S_typed HO_5.out) (by decide)) (fun k_ hk => ⟨trivial, hk.2⟩))).1 k_ hk_.symm) ?aF ?aO ?aB ?aS ?aL ?_; (case aP => exact KM_row (Kd.R_mono (Kd.R_tight rfl (Kd.R_mono (ok' := fun k_ => ((fun _ => True)) k_ ∧ some k_ ≠ (u5 : Value).ownBlock) (Kd.R_apart' (HO130.out) (Kd.S_typed HO_5.out) (by decide)) (fun k_ hk => ⟨trivial, hk.2⟩))) (fun _ h_ => h_))); (case aB => exact (by repeat (first | (with_reducible first | exact HB.out | apply below_alloc | apply pw_below_drewN | apply below_drew1) | exact HB.out))); (case aF => exact (fun _ _ => trivial)); (case aO => exact (by (with_reducible repeat (first | apply Kd.S_alloc | apply Kd.S_drewN | apply Kd.S_drew)); exact Kd.S_mono HO_5.out (fun k_ hk => ⟨trivial, fun e_ => hk.2 e_⟩))); (case aS => exact (below_size (by repeat (first | (with_reducible first | exact HB.out | apply below_alloc | apply pw_below_drewN | apply below_drew1) | exact HB.out)))); (case aL => have := LMc22.out; omega); intro v132 w25 ho hb hg hat; rw [← Ny131.out] at ho; have n0_ := Aside0.mk (hb); have n1_ := Aside0.mk (ho); clear HB; clear HO_5; clear HO130; have HB := n0_; have HO133 := n1_; clear n0_ n1_; clear ho hb hg hat)))
             go_roundg kj2
             case measure => have := HK1.out; have := HJ2.out; omega
             case rel => exact ⟨(y131), (wrap64 (x6_1 + (Go.bits .and .i64 (rd l1 x7_1) 63))), (wrap64 (x7_1 + 1)), (by first | rfl | (simp; done) | (simp [*]; done)), (by first | rfl | (simp; done) | (simp [*]; done)), H', ⟨by have := HK1.out; have := HJ2.out; omega⟩, ⟨by (with_reducible repeat (first | apply Kd.S_alloc | apply Kd.S_drewN | apply Kd.S_drew)); exact HO133.out⟩, ⟨by repeat (first | (with_reducible first | exact HB.out | apply below_alloc | apply pw_below_drewN | apply below_drew1) | exact HB.out)⟩⟩
            ·rw [if_neg c22] at H
             exact absurd H (by simp)
           ·rw [if_neg c20] at H
            exact absurd H (by simp)
          ·rw [if_neg c19] at H
           exact absurd H (by simp)
         ·rw [if_neg c18] at H
          exact absurd H (by simp)
       ·rw [if_neg c7] at H
        exact absurd H (by simp)
      ·rw [if_neg c6] at H
       exact absurd H (by simp)
     ·replace c5 := Bool.eq_false_iff.mpr c5
      subst c5
      have H1 : (if 0 ≤ x6_1 then (if x6_1 ≤ (l0.length : Int) then ((endonymlaw1_roomy.f (l0.drop (x6_1 : Int).toNat)).bind fun t135 => (if x5_1.length < 5864062014805 then ((some (x5_1 ++ [t135] : List (List Int))).bind fun y138 => ((wire_Sum.f kj2 y138).bind fun t141 => ((wire_Joined.f kj2 y138).bind fun t142 => ((wire_Joined.f kj2 y138).bind fun t145 => ((endonymlaw1_told.f).bind fun t148 => (if t148 = true then ((endonymref1_Sum.f kj2 l0).bind fun t149 => (if t141 = t149 then (endonymlaw1_WireSums.j2 kj2 l0 y138 t142 t145 ((strOfNums t142).toList != (strOfNums l0).toList)) else (endonymlaw1_WireSums.j2 kj2 l0 y138 t142 t145 true))) else (endonymlaw1_WireSums.j2 kj2 l0 y138 t142 t145 true))))))) else (none))) else (none)) else (none)) = some r := by rw [if_neg (show ¬ (false = true) by decide)] at H; exact H
      clear H
      have H := H1
      clear H1
      by_cases c27 : 0 ≤ x6_1
      ·rw [if_pos c27] at H
       have c27b0 := eq_true c27
       have c27b1 : decide (0 ≤ x6_1) = true := decide_eq_true c27
       clear c27
       by_cases c28 : x6_1 ≤ (l0.length : Int)
       ·rw [if_pos c28] at H
        have c28b0 := eq_true c28
        have c28b1 : decide (x6_1 ≤ (l0.length : Int)) = true := decide_eq_true c28
        clear c28
        replace H := Option.bind_eq_some_iff.mp H
        obtain ⟨t135, A290, H⟩ := H
        replace H : (if x5_1.length < 5864062014805 then ((some (x5_1 ++ [t135] : List (List Int))).bind fun y138 => ((wire_Sum.f kj2 y138).bind fun t141 => ((wire_Joined.f kj2 y138).bind fun t142 => ((wire_Joined.f kj2 y138).bind fun t145 => ((endonymlaw1_told.f).bind fun t148 => (if t148 = true then ((endonymref1_Sum.f kj2 l0).bind fun t149 => (if t141 = t149 then (endonymlaw1_WireSums.j2 kj2 l0 y138 t142 t145 ((strOfNums t142).toList != (strOfNums l0).toList)) else (endonymlaw1_WireSums.j2 kj2 l0 y138 t142 t145 true))) else (endonymlaw1_WireSums.j2 kj2 l0 y138 t142 t145 true))))))) else (none)) = some r := H
        have A29 := Aside0.mk A290
        clear A290
        by_cases c30 : x5_1.length < 5864062014805
        ·rw [if_pos c30] at H
         have LMc30 := Aside0.mk c30
         clear c30
         obtain ⟨y138, hy138⟩ : ∃ y_ : List (List Int), y_ = (x5_1 ++ [t135]) := ⟨_, rfl⟩
         replace H : ((wire_Sum.f kj2 y138).bind fun t141 => ((wire_Joined.f kj2 y138).bind fun t142 => ((wire_Joined.f kj2 y138).bind fun t145 => ((endonymlaw1_told.f).bind fun t148 => (if t148 = true then ((endonymref1_Sum.f kj2 l0).bind fun t149 => (if t141 = t149 then (endonymlaw1_WireSums.j2 kj2 l0 y138 t142 t145 ((strOfNums t142).toList != (strOfNums l0).toList)) else (endonymlaw1_WireSums.j2 kj2 l0 y138 t142 t145 true))) else (endonymlaw1_WireSums.j2 kj2 l0 y138 t142 t145 true)))))) = some r := by first | (rw [hy138]; with_reducible exact H) | (have H2_ := (Option.bind_some _ _).symm.trans H; rw [hy138]; with_reducible exact H2_) | (have H2_ := (Option.bind_some _ _).symm.trans H; with_reducible exact H2_) | with_reducible exact H | (rw [hy138]; exact H) | exact H
         have Ny138 := Aside0.mk hy138
         clear hy138
         replace H := Option.bind_eq_some_iff.mp H
         obtain ⟨t141, A310, H⟩ := H
         replace H : ((wire_Joined.f kj2 y138).bind fun t142 => ((wire_Joined.f kj2 y138).bind fun t145 => ((endonymlaw1_told.f).bind fun t148 => (if t148 = true then ((endonymref1_Sum.f kj2 l0).bind fun t149 => (if t141 = t149 then (endonymlaw1_WireSums.j2 kj2 l0 y138 t142 t145 ((strOfNums t142).toList != (strOfNums l0).toList)) else (endonymlaw1_WireSums.j2 kj2 l0 y138 t142 t145 true))) else (endonymlaw1_WireSums.j2 kj2 l0 y138 t142 t145 true))))) = some r := H
         have A31 := Aside0.mk A310
         clear A310
         replace H := Option.bind_eq_some_iff.mp H
         obtain ⟨t142, A320, H⟩ := H
         replace H : ((wire_Joined.f kj2 y138).bind fun t145 => ((endonymlaw1_told.f).bind fun t148 => (if t148 = true then ((endonymref1_Sum.f kj2 l0).bind fun t149 => (if t141 = t149 then (endonymlaw1_WireSums.j2 kj2 l0 y138 t142 t145 ((strOfNums t142).toList != (strOfNums l0).toList)) else (endonymlaw1_WireSums.j2 kj2 l0 y138 t142 t145 true))) else (endonymlaw1_WireSums.j2 kj2 l0 y138 t142 t145 true)))) = some r := H
         have A32 := Aside0.mk A320
         clear A320
         replace H := Option.bind_eq_some_iff.mp H
         obtain ⟨t145, A330, H⟩ := H
         replace H : ((endonymlaw1_told.f).bind fun t148 => (if t148 = true then ((endonymref1_Sum.f kj2 l0).bind fun t149 => (if t141 = t149 then (endonymlaw1_WireSums.j2 kj2 l0 y138 t142 t145 ((strOfNums t142).toList != (strOfNums l0).toList)) else (endonymlaw1_WireSums.j2 kj2 l0 y138 t142 t145 true))) else (endonymlaw1_WireSums.j2 kj2 l0 y138 t142 t145 true))) = some r := H
         have A33 := Aside0.mk A330
         clear A330
         have HC34 := Aside0.mk H
         clear H
         obtain ⟨i035, hi035, _, hsz35, _⟩ := info_parts info5
         obtain ⟨A35, hcut35, hA35, hC35⟩ := print_drop_of (P := Try.prog) (Value.int .u8) 0 22 5 .i64 Try.underlying22 hi035 hsz35 A0 c0 l0 x6_1 (of_decide_eq_true (by first | (with_reducible assumption) | assumption)) (of_decide_eq_true (by first | (with_reducible assumption) | assumption)) HC0.out
         have HR134 := Aside0.mk (Kd.C_of_reads (h1 := fun _ => rfl) (hA35 _ (Kd.reads_of_C HR0.out)))
         have HC134 := Aside0.mk hC35
         clear hA35 hC35 hi035 hsz35
         go_upto_region 15 with (first | (go_at_call 11; (with_reducible refine (endonymlaw1_roomy.calls2 _ _ (l0.drop (x6_1 : Int).toNat) t135 _ ?side1 ?side2 A29.out _ (by first | rfl | (simp only [List.length_drop, List.length_take]; first | done | omega | (simp only [decide_eq_true_eq] at *; omega)))).mono ?_); (case side1 => repeat (first | exact (Kd.C_below HR134.out HB.out) | (with_reducible refine Kd.C_alloc ?_ _) | (with_reducible refine Kd.C_drewN ?_ _) | (with_reducible refine Kd.C_drew ?_))); (case side2 => exact HC134.out); rintro e w36 ⟨GAo38, co38, rfl, ho0, hb⟩; have n0_ := Aside0.mk (Kd.S_elder' (by (with_reducible repeat (first | apply Kd.S_alloc | apply Kd.S_drewN | apply Kd.S_drew)); exact HO_5.out) (Kd.R_base ho0) hb); have n1_ := Aside0.mk (Kd.R_lower ho0 (below_size (by repeat (first | (with_reducible first | exact HB.out | apply below_alloc | apply pw_below_drewN | apply below_drew1) | exact HB.out)))); have n2_ := Aside0.mk (below_step (by repeat (first | (with_reducible first | exact HB.out | apply below_alloc | apply pw_below_drewN | apply below_drew1) | exact HB.out)) hb); clear HO_5; clear HB; have HO_5 := n0_; have HO137 := n1_; have HB := n2_; clear n0_ n1_ n2_; (try clear hb); (try clear hb2); (try clear hk); (try clear hi); (try clear ho0)) | ((with_reducible refine gate_builtin (b := .append) (xs := #[.tmp 48, .tmp 53]) rfl ?_); at_builtin; refine Kd.S_append KM (w0 := w) w.heap.size rfl (.tmp 48) (.tmp 53) 46 22 (.slice none 0 0) 24 rfl Try.underlying46 info22 rfl (by decide) (by omega) u5 x5_1 t135 [.slice (some ⟨GAo38, 0, none⟩) t135.length co38] (fun _ => True) (fun k_ => some k_ = (.slice (some ⟨GAo38, 0, none⟩) t135.length co38 : Value).ownBlock) rfl rfl ?aP (fun k_ hk_ => ((Kd.R_mono (ok' := fun k_ => ((fun _ => True)) k_ ∧ some k_ ≠ (u5 : Value).ownBlock) (Kd.R_apart' (HO137.out) (Kd.S_typed HO_5.out) (by decide)) (fun k_ hk => ⟨trivial, hk.2⟩))).1 k_ hk_.symm) ?aF ?aO ?aB ?aS ?aL ?_; (case aP => exact KM_row (Kd.R_mono (Kd.R_tight rfl (Kd.R_mono (ok' := fun k_ => ((fun _ => True)) k_ ∧ some k_ ≠ (u5 : Value).ownBlock) (Kd.R_apart' (HO137.out) (Kd.S_typed HO_5.out) (by decide)) (fun k_ hk => ⟨trivial, hk.2⟩))) (fun _ h_ => h_))); (case aB => exact (by repeat (first | (with_reducible first | exact HB.out | apply below_alloc | apply pw_below_drewN | apply below_drew1) | exact HB.out))); (case aF => exact (fun _ _ => trivial)); (case aO => exact (by (with_reducible repeat (first | apply Kd.S_alloc | apply Kd.S_drewN | apply Kd.S_drew)); exact Kd.S_mono HO_5.out (fun k_ hk => ⟨trivial, fun e_ => hk.2 e_⟩))); (case aS => exact (below_size (by repeat (first | (with_reducible first | exact HB.out | apply below_alloc | apply pw_below_drewN | apply below_drew1) | exact HB.out)))); (case aL => have := LMc30.out; omega); intro v139 w37 ho hb hg hat; rw [← Ny138.out] at ho; have n0_ := Aside0.mk (hb); have n1_ := Aside0.mk (ho); clear HB; clear HO_5; clear HO137; have HB := n0_; have HO140 := n1_; clear n0_ n1_; clear ho hb hg hat; obtain ⟨Ao39, co39, eo39⟩ := Kd.S_slice HO140.out; subst eo39) | (go_at_call 20; (with_reducible refine (wire_Sum.calls kj2 _ _ y138 t141 _ ?side1 ?side2 A31.out).mono ?_); (case side1 => repeat (first | exact (KM_slice (Kd.S_reads' HO140.out).2.2) | (with_reducible refine Kd.C_alloc ?_ _) | (with_reducible refine Kd.C_drewN ?_ _) | (with_reducible refine Kd.C_drew ?_))); (case side2 => exact (Kd.S_reads' HO140.out).2.1); rintro e w' ⟨rfl, ⟨nd, rfl⟩⟩; (try first | exact ⟨rfl, _, World.drewN_drewN _ _ _⟩ | exact ⟨rfl, _, Eq.trans (World.drewN_drewN _ _ _) (congrArg (World.drewN _) (Nat.add_assoc _ _ _))⟩)) | (go_at_call 25; (with_reducible refine (wire_Joined.calls kj2 _ _ y138 t142 _ ?side1 ?side2 A32.out).mono ?_); (case side1 => repeat (first | exact (KM_slice (Kd.S_reads' HO140.out).2.2) | (with_reducible refine Kd.C_alloc ?_ _) | (with_reducible refine Kd.C_drewN ?_ _) | (with_reducible refine Kd.C_drew ?_))); (case side2 => exact (Kd.S_reads' HO140.out).2.1); rintro e w40 ⟨v143, rfl, ho0, hb⟩; clear A32; have n0_ := Aside0.mk (Kd.S_elder' (by (with_reducible repeat (first | apply Kd.S_alloc | apply Kd.S_drewN | apply Kd.S_drew)); exact HO140.out) (Kd.R_base ho0) hb); have n1_ := Aside0.mk (Kd.R_lower ho0 (below_size (by repeat (first | (with_reducible first | exact HB.out | apply below_alloc | apply pw_below_drewN | apply below_drew1) | exact HB.out)))); have n2_ := Aside0.mk (below_step (by repeat (first | (with_reducible first | exact HB.out | apply below_alloc | apply pw_below_drewN | apply below_drew1) | exact HB.out)) hb); clear HO140; clear HB; have HO140 := n0_; have HO144 := n1_; have HB := n2_; clear n0_ n1_ n2_; (try clear hb); (try clear hb2); (try clear hk); (try clear hi); (try clear ho0)) | (go_at_call 25; (with_reducible refine (wire_Joined.calls kj2 _ _ y138 t145 _ ?side1 ?side2 A33.out).mono ?_); (case side1 => repeat (first | exact (KM_slice (Kd.S_reads' HO140.out).2.2) | (with_reducible refine Kd.C_alloc ?_ _) | (with_reducible refine Kd.C_drewN ?_ _) | (with_reducible refine Kd.C_drew ?_))); (case side2 => exact (Kd.S_reads' HO140.out).2.1); rintro e w41 ⟨v146, rfl, ho0, hb⟩; have n0_ := Aside0.mk (Kd.S_elder' (by (with_reducible repeat (first | apply Kd.S_alloc | apply Kd.S_drewN | apply Kd.S_drew)); exact HO140.out) (Kd.R_base ho0) hb); have n1_ := Aside0.mk (Kd.R_elder' (by (with_reducible repeat (first | apply Kd.R_alloc | apply Kd.R_drewN | apply Kd.R_drew)); exact HO144.out) (Kd.R_base ho0) hb); have n2_ := Aside0.mk (Kd.R_lower (Kd.R_new' ho0 (Kd.R_lt (by (with_reducible repeat (first | apply Kd.R_alloc | apply Kd.R_drewN | apply Kd.R_drew)); exact HO144.out))) (below_size (by repeat (first | (with_reducible first | exact HB.out | apply below_alloc | apply pw_below_drewN | apply below_drew1) | exact HB.out)))); have n3_ := Aside0.mk (below_step (by repeat (first | (with_reducible first | exact HB.out | apply below_alloc | apply pw_below_drewN | apply below_drew1) | exact HB.out)) hb); clear HO140; clear HO144; clear HB; have HO140 := n0_; have HO144 := n1_; have HO147 := n2_; have HB := n3_; clear n0_ n1_ n2_ n3_; (try clear hb); (try clear hb2); (try clear hk); (try clear hi); (try clear ho0)))
         repeat (go_quiet (first | (go_at_call 11; (with_reducible refine (endonymlaw1_roomy.calls2 _ _ (l0.drop (x6_1 : Int).toNat) t135 _ ?side1 ?side2 A29.out _ (by first | rfl | (simp only [List.length_drop, List.length_take]; first | done | omega | (simp only [decide_eq_true_eq] at *; omega)))).mono ?_); (case side1 => repeat (first | exact (Kd.C_below HR134.out HB.out) | (with_reducible refine Kd.C_alloc ?_ _) | (with_reducible refine Kd.C_drewN ?_ _) | (with_reducible refine Kd.C_drew ?_))); (case side2 => exact HC134.out); rintro e w36 ⟨GAo38, co38, rfl, ho0, hb⟩; have n0_ := Aside0.mk (Kd.S_elder' (by (with_reducible repeat (first | apply Kd.S_alloc | apply Kd.S_drewN | apply Kd.S_drew)); exact HO_5.out) (Kd.R_base ho0) hb); have n1_ := Aside0.mk (Kd.R_lower ho0 (below_size (by repeat (first | (with_reducible first | exact HB.out | apply below_alloc | apply pw_below_drewN | apply below_drew1) | exact HB.out)))); have n2_ := Aside0.mk (below_step (by repeat (first | (with_reducible first | exact HB.out | apply below_alloc | apply pw_below_drewN | apply below_drew1) | exact HB.out)) hb); clear HO_5; clear HB; have HO_5 := n0_; have HO137 := n1_; have HB := n2_; clear n0_ n1_ n2_; (try clear hb); (try clear hb2); (try clear hk); (try clear hi); (try clear ho0)) | ((with_reducible refine gate_builtin (b := .append) (xs := #[.tmp 48, .tmp 53]) rfl ?_); at_builtin; refine Kd.S_append KM (w0 := w) w.heap.size rfl (.tmp 48) (.tmp 53) 46 22 (.slice none 0 0) 24 rfl Try.underlying46 info22 rfl (by decide) (by omega) u5 x5_1 t135 [.slice (some ⟨GAo38, 0, none⟩) t135.length co38] (fun _ => True) (fun k_ => some k_ = (.slice (some ⟨GAo38, 0, none⟩) t135.length co38 : Value).ownBlock) rfl rfl ?aP (fun k_ hk_ => ((Kd.R_mono (ok' := fun k_ => ((fun _ => True)) k_ ∧ some k_ ≠ (u5 : Value).ownBlock) (Kd.R_apart' (HO137.out) (Kd.S_typed HO_5.out) (by decide)) (fun k_ hk => ⟨trivial, hk.2⟩))).1 k_ hk_.symm) ?aF ?aO ?aB ?aS ?aL ?_; (case aP => exact KM_row (Kd.R_mono (Kd.R_tight rfl (Kd.R_mono (ok' := fun k_ => ((fun _ => True)) k_ ∧ some k_ ≠ (u5 : Value).ownBlock) (Kd.R_apart' (HO137.out) (Kd.S_typed HO_5.out) (by decide)) (fun k_ hk => ⟨trivial, hk.2⟩))) (fun _ h_ => h_))); (case aB => exact (by repeat (first | (with_reducible first | exact HB.out | apply below_alloc | apply pw_below_drewN | apply below_drew1) | exact HB.out))); (case aF => exact (fun _ _ => trivial)); (case aO => exact (by (with_reducible repeat (first | apply Kd.S_alloc | apply Kd.S_drewN | apply Kd.S_drew)); exact Kd.S_mono HO_5.out (fun k_ hk => ⟨trivial, fun e_ => hk.2 e_⟩))); (case aS => exact (below_size (by repeat (first | (with_reducible first | exact HB.out | apply below_alloc | apply pw_below_drewN | apply below_drew1) | exact HB.out)))); (case aL => have := LMc30.out; omega); intro v139 w37 ho hb hg hat; rw [← Ny138.out] at ho; have n0_ := Aside0.mk (hb); have n1_ := Aside0.mk (ho); clear HB; clear HO_5; clear HO137; have HB := n0_; have HO140 := n1_; clear n0_ n1_; clear ho hb hg hat; obtain ⟨Ao39, co39, eo39⟩ := Kd.S_slice HO140.out; subst eo39) | (go_at_call 20; (with_reducible refine (wire_Sum.calls kj2 _ _ y138 t141 _ ?side1 ?side2 A31.out).mono ?_); (case side1 => repeat (first | exact (KM_slice (Kd.S_reads' HO140.out).2.2) | (with_reducible refine Kd.C_alloc ?_ _) | (with_reducible refine Kd.C_drewN ?_ _) | (with_reducible refine Kd.C_drew ?_))); (case side2 => exact (Kd.S_reads' HO140.out).2.1); rintro e w' ⟨rfl, ⟨nd, rfl⟩⟩; (try first | exact ⟨rfl, _, World.drewN_drewN _ _ _⟩ | exact ⟨rfl, _, Eq.trans (World.drewN_drewN _ _ _) (congrArg (World.drewN _) (Nat.add_assoc _ _ _))⟩)) | (go_at_call 25; (with_reducible refine (wire_Joined.calls kj2 _ _ y138 t142 _ ?side1 ?side2 A32.out).mono ?_); (case side1 => repeat (first | exact (KM_slice (Kd.S_reads' HO140.out).2.2) | (with_reducible refine Kd.C_alloc ?_ _) | (with_reducible refine Kd.C_drewN ?_ _) | (with_reducible refine Kd.C_drew ?_))); (case side2 => exact (Kd.S_reads' HO140.out).2.1); rintro e w40 ⟨v143, rfl, ho0, hb⟩; clear A32; have n0_ := Aside0.mk (Kd.S_elder' (by (with_reducible repeat (first | apply Kd.S_alloc | apply Kd.S_drewN | apply Kd.S_drew)); exact HO140.out) (Kd.R_base ho0) hb); have n1_ := Aside0.mk (Kd.R_lower ho0 (below_size (by repeat (first | (with_reducible first | exact HB.out | apply below_alloc | apply pw_below_drewN | apply below_drew1) | exact HB.out)))); have n2_ := Aside0.mk (below_step (by repeat (first | (with_reducible first | exact HB.out | apply below_alloc | apply pw_below_drewN | apply below_drew1) | exact HB.out)) hb); clear HO140; clear HB; have HO140 := n0_; have HO144 := n1_; have HB := n2_; clear n0_ n1_ n2_; (try clear hb); (try clear hb2); (try clear hk); (try clear hi); (try clear ho0)) | (go_at_call 25; (with_reducible refine (wire_Joined.calls kj2 _ _ y138 t145 _ ?side1 ?side2 A33.out).mono ?_); (case side1 => repeat (first | exact (KM_slice (Kd.S_reads' HO140.out).2.2) | (with_reducible refine Kd.C_alloc ?_ _) | (with_reducible refine Kd.C_drewN ?_ _) | (with_reducible refine Kd.C_drew ?_))); (case side2 => exact (Kd.S_reads' HO140.out).2.1); rintro e w41 ⟨v146, rfl, ho0, hb⟩; have n0_ := Aside0.mk (Kd.S_elder' (by (with_reducible repeat (first | apply Kd.S_alloc | apply Kd.S_drewN | apply Kd.S_drew)); exact HO140.out) (Kd.R_base ho0) hb); have n1_ := Aside0.mk (Kd.R_elder' (by (with_reducible repeat (first | apply Kd.R_alloc | apply Kd.R_drewN | apply Kd.R_drew)); exact HO144.out) (Kd.R_base ho0) hb); have n2_ := Aside0.mk (Kd.R_lower (Kd.R_new' ho0 (Kd.R_lt (by (with_reducible repeat (first | apply Kd.R_alloc | apply Kd.R_drewN | apply Kd.R_drew)); exact HO144.out))) (below_size (by repeat (first | (with_reducible first | exact HB.out | apply below_alloc | apply pw_below_drewN | apply below_drew1) | exact HB.out)))); have n3_ := Aside0.mk (below_step (by repeat (first | (with_reducible first | exact HB.out | apply below_alloc | apply pw_below_drewN | apply below_drew1) | exact HB.out)) hb); clear HO140; clear HO144; clear HB; have HO140 := n0_; have HO144 := n1_; have HO147 := n2_; have HB := n3_; clear n0_ n1_ n2_ n3_; (try clear hb); (try clear hb2); (try clear hk); (try clear hi); (try clear ho0))); go_upto_region 15 with (first | (go_at_call 11; (with_reducible refine (endonymlaw1_roomy.calls2 _ _ (l0.drop (x6_1 : Int).toNat) t135 _ ?side1 ?side2 A29.out _ (by first | rfl | (simp only [List.length_drop, List.length_take]; first | done | omega | (simp only [decide_eq_true_eq] at *; omega)))).mono ?_); (case side1 => repeat (first | exact (Kd.C_below HR134.out HB.out) | (with_reducible refine Kd.C_alloc ?_ _) | (with_reducible refine Kd.C_drewN ?_ _) | (with_reducible refine Kd.C_drew ?_))); (case side2 => exact HC134.out); rintro e w36 ⟨GAo38, co38, rfl, ho0, hb⟩; have n0_ := Aside0.mk (Kd.S_elder' (by (with_reducible repeat (first | apply Kd.S_alloc | apply Kd.S_drewN | apply Kd.S_drew)); exact HO_5.out) (Kd.R_base ho0) hb); have n1_ := Aside0.mk (Kd.R_lower ho0 (below_size (by repeat (first | (with_reducible first | exact HB.out | apply below_alloc | apply pw_below_drewN | apply below_drew1) | exact HB.out)))); have n2_ := Aside0.mk (below_step (by repeat (first | (with_reducible first | exact HB.out | apply below_alloc | apply pw_below_drewN | apply below_drew1) | exact HB.out)) hb); clear HO_5; clear HB; have HO_5 := n0_; have HO137 := n1_; have HB := n2_; clear n0_ n1_ n2_; (try clear hb); (try clear hb2); (try clear hk); (try clear hi); (try clear ho0)) | ((with_reducible refine gate_builtin (b := .append) (xs := #[.tmp 48, .tmp 53]) rfl ?_); at_builtin; refine Kd.S_append KM (w0 := w) w.heap.size rfl (.tmp 48) (.tmp 53) 46 22 (.slice none 0 0) 24 rfl Try.underlying46 info22 rfl (by decide) (by omega) u5 x5_1 t135 [.slice (some ⟨GAo38, 0, none⟩) t135.length co38] (fun _ => True) (fun k_ => some k_ = (.slice (some ⟨GAo38, 0, none⟩) t135.length co38 : Value).ownBlock) rfl rfl ?aP (fun k_ hk_ => ((Kd.R_mono (ok' := fun k_ => ((fun _ => True)) k_ ∧ some k_ ≠ (u5 : Value).ownBlock) (Kd.R_apart' (HO137.out) (Kd.S_typed HO_5.out) (by decide)) (fun k_ hk => ⟨trivial, hk.2⟩))).1 k_ hk_.symm) ?aF ?aO ?aB ?aS ?aL ?_; (case aP => exact KM_row (Kd.R_mono (Kd.R_tight rfl (Kd.R_mono (ok' := fun k_ => ((fun _ => True)) k_ ∧ some k_ ≠ (u5 : Value).ownBlock) (Kd.R_apart' (HO137.out) (Kd.S_typed HO_5.out) (by decide)) (fun k_ hk => ⟨trivial, hk.2⟩))) (fun _ h_ => h_))); (case aB => exact (by repeat (first | (with_reducible first | exact HB.out | apply below_alloc | apply pw_below_drewN | apply below_drew1) | exact HB.out))); (case aF => exact (fun _ _ => trivial)); (case aO => exact (by (with_reducible repeat (first | apply Kd.S_alloc | apply Kd.S_drewN | apply Kd.S_drew)); exact Kd.S_mono HO_5.out (fun k_ hk => ⟨trivial, fun e_ => hk.2 e_⟩))); (case aS => exact (below_size (by repeat (first | (with_reducible first | exact HB.out | apply below_alloc | apply pw_below_drewN | apply below_drew1) | exact HB.out)))); (case aL => have := LMc30.out; omega); intro v139 w37 ho hb hg hat; rw [← Ny138.out] at ho; have n0_ := Aside0.mk (hb); have n1_ := Aside0.mk (ho); clear HB; clear HO_5; clear HO137; have HB := n0_; have HO140 := n1_; clear n0_ n1_; clear ho hb hg hat; obtain ⟨Ao39, co39, eo39⟩ := Kd.S_slice HO140.out; subst eo39) | (go_at_call 20; (with_reducible refine (wire_Sum.calls kj2 _ _ y138 t141 _ ?side1 ?side2 A31.out).mono ?_); (case side1 => repeat (first | exact (KM_slice (Kd.S_reads' HO140.out).2.2) | (with_reducible refine Kd.C_alloc ?_ _) | (with_reducible refine Kd.C_drewN ?_ _) | (with_reducible refine Kd.C_drew ?_))); (case side2 => exact (Kd.S_reads' HO140.out).2.1); rintro e w' ⟨rfl, ⟨nd, rfl⟩⟩; (try first | exact ⟨rfl, _, World.drewN_drewN _ _ _⟩ | exact ⟨rfl, _, Eq.trans (World.drewN_drewN _ _ _) (congrArg (World.drewN _) (Nat.add_assoc _ _ _))⟩)) | (go_at_call 25; (with_reducible refine (wire_Joined.calls kj2 _ _ y138 t142 _ ?side1 ?side2 A32.out).mono ?_); (case side1 => repeat (first | exact (KM_slice (Kd.S_reads' HO140.out).2.2) | (with_reducible refine Kd.C_alloc ?_ _) | (with_reducible refine Kd.C_drewN ?_ _) | (with_reducible refine Kd.C_drew ?_))); (case side2 => exact (Kd.S_reads' HO140.out).2.1); rintro e w40 ⟨v143, rfl, ho0, hb⟩; clear A32; have n0_ := Aside0.mk (Kd.S_elder' (by (with_reducible repeat (first | apply Kd.S_alloc | apply Kd.S_drewN | apply Kd.S_drew)); exact HO140.out) (Kd.R_base ho0) hb); have n1_ := Aside0.mk (Kd.R_lower ho0 (below_size (by repeat (first | (with_reducible first | exact HB.out | apply below_alloc | apply pw_below_drewN | apply below_drew1) | exact HB.out)))); have n2_ := Aside0.mk (below_step (by repeat (first | (with_reducible first | exact HB.out | apply below_alloc | apply pw_below_drewN | apply below_drew1) | exact HB.out)) hb); clear HO140; clear HB; have HO140 := n0_; have HO144 := n1_; have HB := n2_; clear n0_ n1_ n2_; (try clear hb); (try clear hb2); (try clear hk); (try clear hi); (try clear ho0)) | (go_at_call 25; (with_reducible refine (wire_Joined.calls kj2 _ _ y138 t145 _ ?side1 ?side2 A33.out).mono ?_); (case side1 => repeat (first | exact (KM_slice (Kd.S_reads' HO140.out).2.2) | (with_reducible refine Kd.C_alloc ?_ _) | (with_reducible refine Kd.C_drewN ?_ _) | (with_reducible refine Kd.C_drew ?_))); (case side2 => exact (Kd.S_reads' HO140.out).2.1); rintro e w41 ⟨v146, rfl, ho0, hb⟩; have n0_ := Aside0.mk (Kd.S_elder' (by (with_reducible repeat (first | apply Kd.S_alloc | apply Kd.S_drewN | apply Kd.S_drew)); exact HO140.out) (Kd.R_base ho0) hb); have n1_ := Aside0.mk (Kd.R_elder' (by (with_reducible repeat (first | apply Kd.R_alloc | apply Kd.R_drewN | apply Kd.R_drew)); exact HO144.out) (Kd.R_base ho0) hb); have n2_ := Aside0.mk (Kd.R_lower (Kd.R_new' ho0 (Kd.R_lt (by (with_reducible repeat (first | apply Kd.R_alloc | apply Kd.R_drewN | apply Kd.R_drew)); exact HO144.out))) (below_size (by repeat (first | (with_reducible first | exact HB.out | apply below_alloc | apply pw_below_drewN | apply below_drew1) | exact HB.out)))); have n3_ := Aside0.mk (below_step (by repeat (first | (with_reducible first | exact HB.out | apply below_alloc | apply pw_below_drewN | apply below_drew1) | exact HB.out)) hb); clear HO140; clear HO144; clear HB; have HO140 := n0_; have HO144 := n1_; have HO147 := n2_; have HB := n3_; clear n0_ n1_ n2_ n3_; (try clear hb); (try clear hb2); (try clear hk); (try clear hi); (try clear ho0))))
         (try simp only [Act.put, List.setIfInBounds_toArray, List.set_cons_zero, List.set_cons_succ])
         go_cut [75] (fun v75 wc => ∃ (kq : Nat) (x75_33 : Bool), v75 = .bool x75_33 ∧ Aside0 (endonymlaw1_WireSums.j2 kq l0 y138 t142 t145 x75_33 = some r) ∧ Aside0 (kq ≤ kj2) ∧ Aside0 (Kd.S KM 22 wc w.heap.size (fun k_ => some k_ ≠ (v143 : Value).ownBlock ∧ some k_ ≠ (v146 : Value).ownBlock) (.slice Ao39 y138.length co39) y138) ∧ Aside0 (Kd.R (Kd.int .u8) 5 wc w.heap.size (fun k_ => some k_ ≠ (v146 : Value).ownBlock) v143 t142) ∧ Aside0 (Kd.R (Kd.int .u8) 5 wc w.heap.size (fun k_ => some k_ ≠ (v143 : Value).ownBlock) v146 t145) ∧ Aside0 (Below w.heap.size w wc))
         case first =>
          have H := HC34.out
          clear HC34
          replace H := Option.bind_eq_some_iff.mp H
          obtain ⟨t148, A420, H⟩ := H
          replace H : (if t148 = true then ((endonymref1_Sum.f kj2 l0).bind fun t149 => (if t141 = t149 then (endonymlaw1_WireSums.j2 kj2 l0 y138 t142 t145 ((strOfNums t142).toList != (strOfNums l0).toList)) else (endonymlaw1_WireSums.j2 kj2 l0 y138 t142 t145 true))) else (endonymlaw1_WireSums.j2 kj2 l0 y138 t142 t145 true)) = some r := H
          have A42 := Aside0.mk A420
          clear A420
          by_cases c43 : t148 = true
          ·subst c43
           have H1 : ((endonymref1_Sum.f kj2 l0).bind fun t149 => (if t141 = t149 then (endonymlaw1_WireSums.j2 kj2 l0 y138 t142 t145 ((strOfNums t142).toList != (strOfNums l0).toList)) else (endonymlaw1_WireSums.j2 kj2 l0 y138 t142 t145 true))) = some r := by rw [if_pos rfl] at H; exact H
           clear H
           have H := H1
           clear H1
           replace H := Option.bind_eq_some_iff.mp H
           obtain ⟨t149, A440, H⟩ := H
           replace H : (if t141 = t149 then (endonymlaw1_WireSums.j2 kj2 l0 y138 t142 t145 ((strOfNums t142).toList != (strOfNums l0).toList)) else (endonymlaw1_WireSums.j2 kj2 l0 y138 t142 t145 true)) = some r := H
           have A44 := Aside0.mk A440
           clear A440
           by_cases c45 : t141 = t149
           ·rw [if_pos c45] at H
            have c45b0 : (t141 == t149) = true := beq_iff_eq.mpr c45
            have c45b1 : (t141 != t149) = false := bne_eq_false_iff_eq.mpr c45
            clear c45
            (first | rw [c45b0] | (simp only [i64_w, i32_w]; rw [c45b0]) | skip)
            have H' := Aside0.mk H
            clear H
            go_wp2_with (first | (go_at_call 14; (with_reducible refine (endonymlaw1_told.calls  true _ A42.out).mono ?_); rintro e w46 ⟨rfl, hb⟩; have n0_ := Aside0.mk (Kd.S_below (by (with_reducible repeat (first | apply Kd.S_alloc | apply Kd.S_drewN | apply Kd.S_drew)); exact HO140.out) hb); have n1_ := Aside0.mk (Kd.R_below (by (with_reducible repeat (first | apply Kd.R_alloc | apply Kd.R_drewN | apply Kd.R_drew)); exact HO144.out) hb); have n2_ := Aside0.mk (Kd.R_below (by (with_reducible repeat (first | apply Kd.R_alloc | apply Kd.R_drewN | apply Kd.R_drew)); exact HO147.out) hb); have n3_ := Aside0.mk (below_step (by repeat (first | (with_reducible first | exact HB.out | apply below_alloc | apply pw_below_drewN | apply below_drew1) | exact HB.out)) hb); clear HO140; clear HO144; clear HO147; clear HB; have HO140 := n0_; have HO144 := n1_; have HO147 := n2_; have HB := n3_; clear n0_ n1_ n2_ n3_; (try clear hb); (try clear hb2); (try clear hk); (try clear hi)) | (go_at_call 26; (with_reducible refine (endonymref1_Sum.calls kj2 _ _ l0 t149 _ ?side1 ?side2 A44.out).mono ?_); (case side1 => repeat (first | exact (Kd.C_below HR0.out HB.out) | (with_reducible refine Kd.C_alloc ?_ _) | (with_reducible refine Kd.C_drewN ?_ _) | (with_reducible refine Kd.C_drew ?_))); (case side2 => exact HC0.out); rintro e w' ⟨rfl, ⟨nd, rfl⟩⟩; (try first | exact ⟨rfl, _, World.drewN_drewN _ _ _⟩ | exact ⟨rfl, _, Eq.trans (World.drewN_drewN _ _ _) (congrArg (World.drewN _) (Nat.add_assoc _ _ _))⟩); have hcv47 := own_string (P := Try.prog) Try.underlying22 Try.underlying5 Try.underlying9 (Kd.own_of_R HO144.out); have hcv48 := fun m_ : Nat => own_string (P := Try.prog) Try.underlying22 Try.underlying5 Try.underlying9 (Kd.own_of_R (Kd.R_drewN HO144.out m_)); have hcv49 := C_string_at (P := Try.prog) (A := A0) (c := c0) Try.underlying22 Try.underlying5 Try.underlying9 (Kd.C_below HR0.out HB.out); have hcv50 := C_string_drew (P := Try.prog) (A := A0) (c := c0) Try.underlying22 Try.underlying5 Try.underlying9 (Kd.C_below HR0.out HB.out)))
            repeat (go_quiet (first | (go_at_call 14; (with_reducible refine (endonymlaw1_told.calls  true _ A42.out).mono ?_); rintro e w46 ⟨rfl, hb⟩; have n0_ := Aside0.mk (Kd.S_below (by (with_reducible repeat (first | apply Kd.S_alloc | apply Kd.S_drewN | apply Kd.S_drew)); exact HO140.out) hb); have n1_ := Aside0.mk (Kd.R_below (by (with_reducible repeat (first | apply Kd.R_alloc | apply Kd.R_drewN | apply Kd.R_drew)); exact HO144.out) hb); have n2_ := Aside0.mk (Kd.R_below (by (with_reducible repeat (first | apply Kd.R_alloc | apply Kd.R_drewN | apply Kd.R_drew)); exact HO147.out) hb); have n3_ := Aside0.mk (below_step (by repeat (first | (with_reducible first | exact HB.out | apply below_alloc | apply pw_below_drewN | apply below_drew1) | exact HB.out)) hb); clear HO140; clear HO144; clear HO147; clear HB; have HO140 := n0_; have HO144 := n1_; have HO147 := n2_; have HB := n3_; clear n0_ n1_ n2_ n3_; (try clear hb); (try clear hb2); (try clear hk); (try clear hi)) | (go_at_call 26; (with_reducible refine (endonymref1_Sum.calls kj2 _ _ l0 t149 _ ?side1 ?side2 A44.out).mono ?_); (case side1 => repeat (first | exact (Kd.C_below HR0.out HB.out) | (with_reducible refine Kd.C_alloc ?_ _) | (with_reducible refine Kd.C_drewN ?_ _) | (with_reducible refine Kd.C_drew ?_))); (case side2 => exact HC0.out); rintro e w' ⟨rfl, ⟨nd, rfl⟩⟩; (try first | exact ⟨rfl, _, World.drewN_drewN _ _ _⟩ | exact ⟨rfl, _, Eq.trans (World.drewN_drewN _ _ _) (congrArg (World.drewN _) (Nat.add_assoc _ _ _))⟩); have hcv47 := own_string (P := Try.prog) Try.underlying22 Try.underlying5 Try.underlying9 (Kd.own_of_R HO144.out); have hcv48 := fun m_ : Nat => own_string (P := Try.prog) Try.underlying22 Try.underlying5 Try.underlying9 (Kd.own_of_R (Kd.R_drewN HO144.out m_)); have hcv49 := C_string_at (P := Try.prog) (A := A0) (c := c0) Try.underlying22 Try.underlying5 Try.underlying9 (Kd.C_below HR0.out HB.out); have hcv50 := C_string_drew (P := Try.prog) (A := A0) (c := c0) Try.underlying22 Try.underlying5 Try.underlying9 (Kd.C_below HR0.out HB.out))); try go_wp2_with (first | (go_at_call 14; (with_reducible refine (endonymlaw1_told.calls  true _ A42.out).mono ?_); rintro e w46 ⟨rfl, hb⟩; have n0_ := Aside0.mk (Kd.S_below (by (with_reducible repeat (first | apply Kd.S_alloc | apply Kd.S_drewN | apply Kd.S_drew)); exact HO140.out) hb); have n1_ := Aside0.mk (Kd.R_below (by (with_reducible repeat (first | apply Kd.R_alloc | apply Kd.R_drewN | apply Kd.R_drew)); exact HO144.out) hb); have n2_ := Aside0.mk (Kd.R_below (by (with_reducible repeat (first | apply Kd.R_alloc | apply Kd.R_drewN | apply Kd.R_drew)); exact HO147.out) hb); have n3_ := Aside0.mk (below_step (by repeat (first | (with_reducible first | exact HB.out | apply below_alloc | apply pw_below_drewN | apply below_drew1) | exact HB.out)) hb); clear HO140; clear HO144; clear HO147; clear HB; have HO140 := n0_; have HO144 := n1_; have HO147 := n2_; have HB := n3_; clear n0_ n1_ n2_ n3_; (try clear hb); (try clear hb2); (try clear hk); (try clear hi)) | (go_at_call 26; (with_reducible refine (endonymref1_Sum.calls kj2 _ _ l0 t149 _ ?side1 ?side2 A44.out).mono ?_); (case side1 => repeat (first | exact (Kd.C_below HR0.out HB.out) | (with_reducible refine Kd.C_alloc ?_ _) | (with_reducible refine Kd.C_drewN ?_ _) | (with_reducible refine Kd.C_drew ?_))); (case side2 => exact HC0.out); rintro e w' ⟨rfl, ⟨nd, rfl⟩⟩; (try first | exact ⟨rfl, _, World.drewN_drewN _ _ _⟩ | exact ⟨rfl, _, Eq.trans (World.drewN_drewN _ _ _) (congrArg (World.drewN _) (Nat.add_assoc _ _ _))⟩); have hcv47 := own_string (P := Try.prog) Try.underlying22 Try.underlying5 Try.underlying9 (Kd.own_of_R HO144.out); have hcv48 := fun m_ : Nat => own_string (P := Try.prog) Try.underlying22 Try.underlying5 Try.underlying9 (Kd.own_of_R (Kd.R_drewN HO144.out m_)); have hcv49 := C_string_at (P := Try.prog) (A := A0) (c := c0) Try.underlying22 Try.underlying5 Try.underlying9 (Kd.C_below HR0.out HB.out); have hcv50 := C_string_drew (P := Try.prog) (A := A0) (c := c0) Try.underlying22 Try.underlying5 Try.underlying9 (Kd.C_below HR0.out HB.out))))
            go_meet
            case rel => exact ⟨_, (((strOfNums t142).toList != (strOfNums l0).toList)), (by first | rfl | (simp; done) | (simp [*]; done)), H', ⟨by have := HK1.out; have := HJ2.out; first | omega | exact Nat.le_refl _⟩, ⟨by (with_reducible repeat (first | apply Kd.S_alloc | apply Kd.S_drewN | apply Kd.S_drew)); exact Kd.S_mono HO140.out (fun _ hk => ⟨hk.1.2, hk.2⟩)⟩, ⟨by (with_reducible repeat (first | apply Kd.R_alloc | apply Kd.R_drewN | apply Kd.R_drew)); exact Kd.R_mono HO144.out (fun _ hk => hk.2)⟩, ⟨by (with_reducible repeat (first | apply Kd.R_alloc | apply Kd.R_drewN | apply Kd.R_drew)); exact Kd.R_mono HO147.out (fun _ hk => hk.2)⟩, ⟨by repeat (first | (with_reducible first | exact HB.out | apply below_alloc | apply pw_below_drewN | apply below_drew1) | exact HB.out)⟩⟩
           ·rw [if_neg c45] at H
            have c45b0 : (t141 == t149) = false := beq_eq_false_iff_ne.mpr c45
            have c45b1 : (t141 != t149) = true := bne_iff_ne.mpr c45
            (first | rw [c45b0] | (simp only [i64_w, i32_w]; rw [c45b0]) | skip)
            have H' := Aside0.mk H
            clear H
            go_wp2_with (first | (go_at_call 14; (with_reducible refine (endonymlaw1_told.calls  true _ A42.out).mono ?_); rintro e w51 ⟨rfl, hb⟩; have n0_ := Aside0.mk (Kd.S_below (by (with_reducible repeat (first | apply Kd.S_alloc | apply Kd.S_drewN | apply Kd.S_drew)); exact HO140.out) hb); have n1_ := Aside0.mk (Kd.R_below (by (with_reducible repeat (first | apply Kd.R_alloc | apply Kd.R_drewN | apply Kd.R_drew)); exact HO144.out) hb); have n2_ := Aside0.mk (Kd.R_below (by (with_reducible repeat (first | apply Kd.R_alloc | apply Kd.R_drewN | apply Kd.R_drew)); exact HO147.out) hb); have n3_ := Aside0.mk (below_step (by repeat (first | (with_reducible first | exact HB.out | apply below_alloc | apply pw_below_drewN | apply below_drew1) | exact HB.out)) hb); clear HO140; clear HO144; clear HO147; clear HB; have HO140 := n0_; have HO144 := n1_; have HO147 := n2_; have HB := n3_; clear n0_ n1_ n2_ n3_; (try clear hb); (try clear hb2); (try clear hk); (try clear hi)) | (go_at_call 26; (with_reducible refine (endonymref1_Sum.calls kj2 _ _ l0 t149 _ ?side1 ?side2 A44.out).mono ?_); (case side1 => repeat (first | exact (Kd.C_below HR0.out HB.out) | (with_reducible refine Kd.C_alloc ?_ _) | (with_reducible refine Kd.C_drewN ?_ _) | (with_reducible refine Kd.C_drew ?_))); (case side2 => exact HC0.out); rintro e w' ⟨rfl, ⟨nd, rfl⟩⟩; (try first | exact ⟨rfl, _, World.drewN_drewN _ _ _⟩ | exact ⟨rfl, _, Eq.trans (World.drewN_drewN _ _ _) (congrArg (World.drewN _) (Nat.add_assoc _ _ _))⟩)))
            repeat (go_quiet (first | (go_at_call 14; (with_reducible refine (endonymlaw1_told.calls  true _ A42.out).mono ?_); rintro e w51 ⟨rfl, hb⟩; have n0_ := Aside0.mk (Kd.S_below (by (with_reducible repeat (first | apply Kd.S_alloc | apply Kd.S_drewN | apply Kd.S_drew)); exact HO140.out) hb); have n1_ := Aside0.mk (Kd.R_below (by (with_reducible repeat (first | apply Kd.R_alloc | apply Kd.R_drewN | apply Kd.R_drew)); exact HO144.out) hb); have n2_ := Aside0.mk (Kd.R_below (by (with_reducible repeat (first | apply Kd.R_alloc | apply Kd.R_drewN | apply Kd.R_drew)); exact HO147.out) hb); have n3_ := Aside0.mk (below_step (by repeat (first | (with_reducible first | exact HB.out | apply below_alloc | apply pw_below_drewN | apply below_drew1) | exact HB.out)) hb); clear HO140; clear HO144; clear HO147; clear HB; have HO140 := n0_; have HO144 := n1_; have HO147 := n2_; have HB := n3_; clear n0_ n1_ n2_ n3_; (try clear hb); (try clear hb2); (try clear hk); (try clear hi)) | (go_at_call 26; (with_reducible refine (endonymref1_Sum.calls kj2 _ _ l0 t149 _ ?side1 ?side2 A44.out).mono ?_); (case side1 => repeat (first | exact (Kd.C_below HR0.out HB.out) | (with_reducible refine Kd.C_alloc ?_ _) | (with_reducible refine Kd.C_drewN ?_ _) | (with_reducible refine Kd.C_drew ?_))); (case side2 => exact HC0.out); rintro e w' ⟨rfl, ⟨nd, rfl⟩⟩; (try first | exact ⟨rfl, _, World.drewN_drewN _ _ _⟩ | exact ⟨rfl, _, Eq.trans (World.drewN_drewN _ _ _) (congrArg (World.drewN _) (Nat.add_assoc _ _ _))⟩))); try go_wp2_with (first | (go_at_call 14; (with_reducible refine (endonymlaw1_told.calls  true _ A42.out).mono ?_); rintro e w51 ⟨rfl, hb⟩; have n0_ := Aside0.mk (Kd.S_below (by (with_reducible repeat (first | apply Kd.S_alloc | apply Kd.S_drewN | apply Kd.S_drew)); exact HO140.out) hb); have n1_ := Aside0.mk (Kd.R_below (by (with_reducible repeat (first | apply Kd.R_alloc | apply Kd.R_drewN | apply Kd.R_drew)); exact HO144.out) hb); have n2_ := Aside0.mk (Kd.R_below (by (with_reducible repeat (first | apply Kd.R_alloc | apply Kd.R_drewN | apply Kd.R_drew)); exact HO147.out) hb); have n3_ := Aside0.mk (below_step (by repeat (first | (with_reducible first | exact HB.out | apply below_alloc | apply pw_below_drewN | apply below_drew1) | exact HB.out)) hb); clear HO140; clear HO144; clear HO147; clear HB; have HO140 := n0_; have HO144 := n1_; have HO147 := n2_; have HB := n3_; clear n0_ n1_ n2_ n3_; (try clear hb); (try clear hb2); (try clear hk); (try clear hi)) | (go_at_call 26; (with_reducible refine (endonymref1_Sum.calls kj2 _ _ l0 t149 _ ?side1 ?side2 A44.out).mono ?_); (case side1 => repeat (first | exact (Kd.C_below HR0.out HB.out) | (with_reducible refine Kd.C_alloc ?_ _) | (with_reducible refine Kd.C_drewN ?_ _) | (with_reducible refine Kd.C_drew ?_))); (case side2 => exact HC0.out); rintro e w' ⟨rfl, ⟨nd, rfl⟩⟩; (try first | exact ⟨rfl, _, World.drewN_drewN _ _ _⟩ | exact ⟨rfl, _, Eq.trans (World.drewN_drewN _ _ _) (congrArg (World.drewN _) (Nat.add_assoc _ _ _))⟩))))
            go_meet
            case rel => exact ⟨_, (true), (by first | rfl | (simp; done) | (simp [*]; done)), H', ⟨by have := HK1.out; have := HJ2.out; first | omega | exact Nat.le_refl _⟩, ⟨by (with_reducible repeat (first | apply Kd.S_alloc | apply Kd.S_drewN | apply Kd.S_drew)); exact Kd.S_mono HO140.out (fun _ hk => ⟨hk.1.2, hk.2⟩)⟩, ⟨by (with_reducible repeat (first | apply Kd.R_alloc | apply Kd.R_drewN | apply Kd.R_drew)); exact Kd.R_mono HO144.out (fun _ hk => hk.2)⟩, ⟨by (with_reducible repeat (first | apply Kd.R_alloc | apply Kd.R_drewN | apply Kd.R_drew)); exact Kd.R_mono HO147.out (fun _ hk => hk.2)⟩, ⟨by repeat (first | (with_reducible first | exact HB.out | apply below_alloc | apply pw_below_drewN | apply below_drew1) | exact HB.out)⟩⟩
          ·replace c43 := Bool.eq_false_iff.mpr c43
           subst c43
           have H1 : (endonymlaw1_WireSums.j2 kj2 l0 y138 t142 t145 true) = some r := by rw [if_neg (show ¬ (false = true) by decide)] at H; exact H
           clear H
           have H := H1
           clear H1
           have H' := Aside0.mk H
           clear H
           go_wp2_with (first | (go_at_call 14; (with_reducible refine (endonymlaw1_told.calls  false _ A42.out).mono ?_); rintro e w52 ⟨rfl, hb⟩; have n0_ := Aside0.mk (Kd.S_below (by (with_reducible repeat (first | apply Kd.S_alloc | apply Kd.S_drewN | apply Kd.S_drew)); exact HO140.out) hb); have n1_ := Aside0.mk (Kd.R_below (by (with_reducible repeat (first | apply Kd.R_alloc | apply Kd.R_drewN | apply Kd.R_drew)); exact HO144.out) hb); have n2_ := Aside0.mk (Kd.R_below (by (with_reducible repeat (first | apply Kd.R_alloc | apply Kd.R_drewN | apply Kd.R_drew)); exact HO147.out) hb); have n3_ := Aside0.mk (below_step (by repeat (first | (with_reducible first | exact HB.out | apply below_alloc | apply pw_below_drewN | apply below_drew1) | exact HB.out)) hb); clear HO140; clear HO144; clear HO147; clear HB; have HO140 := n0_; have HO144 := n1_; have HO147 := n2_; have HB := n3_; clear n0_ n1_ n2_ n3_; (try clear hb); (try clear hb2); (try clear hk); (try clear hi)))
           repeat (go_quiet (first | (go_at_call 14; (with_reducible refine (endonymlaw1_told.calls  false _ A42.out).mono ?_); rintro e w52 ⟨rfl, hb⟩; have n0_ := Aside0.mk (Kd.S_below (by (with_reducible repeat (first | apply Kd.S_alloc | apply Kd.S_drewN | apply Kd.S_drew)); exact HO140.out) hb); have n1_ := Aside0.mk (Kd.R_below (by (with_reducible repeat (first | apply Kd.R_alloc | apply Kd.R_drewN | apply Kd.R_drew)); exact HO144.out) hb); have n2_ := Aside0.mk (Kd.R_below (by (with_reducible repeat (first | apply Kd.R_alloc | apply Kd.R_drewN | apply Kd.R_drew)); exact HO147.out) hb); have n3_ := Aside0.mk (below_step (by repeat (first | (with_reducible first | exact HB.out | apply below_alloc | apply pw_below_drewN | apply below_drew1) | exact HB.out)) hb); clear HO140; clear HO144; clear HO147; clear HB; have HO140 := n0_; have HO144 := n1_; have HO147 := n2_; have HB := n3_; clear n0_ n1_ n2_ n3_; (try clear hb); (try clear hb2); (try clear hk); (try clear hi))); try go_wp2_with (first | (go_at_call 14; (with_reducible refine (endonymlaw1_told.calls  false _ A42.out).mono ?_); rintro e w52 ⟨rfl, hb⟩; have n0_ := Aside0.mk (Kd.S_below (by (with_reducible repeat (first | apply Kd.S_alloc | apply Kd.S_drewN | apply Kd.S_drew)); exact HO140.out) hb); have n1_ := Aside0.mk (Kd.R_below (by (with_reducible repeat (first | apply Kd.R_alloc | apply Kd.R_drewN | apply Kd.R_drew)); exact HO144.out) hb); have n2_ := Aside0.mk (Kd.R_below (by (with_reducible repeat (first | apply Kd.R_alloc | apply Kd.R_drewN | apply Kd.R_drew)); exact HO147.out) hb); have n3_ := Aside0.mk (below_step (by repeat (first | (with_reducible first | exact HB.out | apply below_alloc | apply pw_below_drewN | apply below_drew1) | exact HB.out)) hb); clear HO140; clear HO144; clear HO147; clear HB; have HO140 := n0_; have HO144 := n1_; have HO147 := n2_; have HB := n3_; clear n0_ n1_ n2_ n3_; (try clear hb); (try clear hb2); (try clear hk); (try clear hi))))
           go_meet
           case rel => exact ⟨_, (true), (by first | rfl | (simp; done) | (simp [*]; done)), H', ⟨by have := HK1.out; have := HJ2.out; first | omega | exact Nat.le_refl _⟩, ⟨by (with_reducible repeat (first | apply Kd.S_alloc | apply Kd.S_drewN | apply Kd.S_drew)); exact Kd.S_mono HO140.out (fun _ hk => ⟨hk.1.2, hk.2⟩)⟩, ⟨by (with_reducible repeat (first | apply Kd.R_alloc | apply Kd.R_drewN | apply Kd.R_drew)); exact Kd.R_mono HO144.out (fun _ hk => hk.2)⟩, ⟨by (with_reducible repeat (first | apply Kd.R_alloc | apply Kd.R_drewN | apply Kd.R_drew)); exact Kd.R_mono HO147.out (fun _ hk => hk.2)⟩, ⟨by repeat (first | (with_reducible first | exact HB.out | apply below_alloc | apply pw_below_drewN | apply below_drew1) | exact HB.out)⟩⟩
         case rest =>
          clear HC34
          try clear c1
          try clear p1
          try clear q1
          try clear hx1
          try clear c2
          try clear p2
          try clear c3
          try clear c4
          try clear c4b0
          try clear hcv4
          try clear c5
          try clear hcv5
          try clear c6
          try clear c6b0
          try clear p6
          try clear c7
          try clear c7b0
          try clear c8
          try clear c8b0
          try clear c9
          try clear c9b0
          try clear c9b1
          try clear c10
          try clear c10b0
          try clear c10b1
          try clear c11
          try clear c11b0
          try clear c11b1
          try clear p11
          try clear q11
          try clear hx11
          try clear c13
          try clear c18
          try clear c18b0
          try clear c18b1
          try clear c19
          try clear c19b0
          try clear c19b1
          try clear c20
          try clear c20b0
          try clear c20b1
          try clear c22
          try clear c27
          try clear c27b0
          try clear c27b1
          try clear c28
          try clear c28b0
          try clear c28b1
          try clear c30
          try clear c43
          try clear c45
          try clear c45b0
          try clear c45b1
          try clear hcv47
          try clear hcv48
          try clear hcv49
          try clear hcv50
          try clear hx119_0
          try clear p119
          try clear p2
          try clear q119
          obtain ⟨kq, x75_33, rfl, HA, HJ33, HO_5, HO_10, HO_11, HB⟩ := hcut
          cases kq with
          | zero => exact absurd HA.out (by simp [endonymlaw1_WireSums.j2])
          | succ kj33 =>
           have H := HA.out
           clear HA
           simp only [endonymlaw1_WireSums.j2] at H
           by_cases c53 : x75_33 = true
           ·subst c53
            have H1 : (some false) = some r := by rw [if_pos rfl] at H; exact H
            clear H
            have H := H1
            clear H1
            obtain rfl := Option.some.inj H
            go_wp2
            repeat (go_quiet (fail); try go_wp2)
            go_ret
            exact ⟨by first | rfl | (simp [errW_none, errW_some] <;> rfl) | (simp [*, errW_none, errW_some] <;> rfl), by repeat (first | (with_reducible first | exact HB.out | apply below_alloc | apply pw_below_drewN | apply below_drew1) | exact HB.out)⟩
           ·replace c53 := Bool.eq_false_iff.mpr c53
            subst c53
            have H1 : (endonymlaw1_WireSums.l1 kj33 l0 y138 t142 t145 0) = some r := by rw [if_neg (show ¬ (false = true) by decide)] at H; exact H
            clear H
            have H := H1
            clear H1
            have H' := Aside0.mk H
            clear H
            go_wp2
            repeat (go_quiet (fail); try go_wp2)
            go_loopg [12] kj33 (fun kq v12 w' => ∃ (x10_4 : List Int) (x12_4 : Int), v12 = .int .i64 x12_4 ∧ Aside0 (endonymlaw1_WireSums.l1 kq l0 y138 x10_4 t145 x12_4 = some r) ∧ Aside0 (kq ≤ kj33) ∧ Aside0 (Kd.S KM 22 w' w.heap.size (fun k_ => some k_ ≠ (v143 : Value).ownBlock ∧ some k_ ≠ (v146 : Value).ownBlock) (.slice Ao39 y138.length co39) y138) ∧ Aside0 (Kd.R (Kd.int .u8) 5 w' w.heap.size (fun k_ => some k_ ≠ (v146 : Value).ownBlock) v143 x10_4) ∧ Aside0 (Kd.R (Kd.int .u8) 5 w' w.heap.size (fun k_ => some k_ ≠ (v143 : Value).ownBlock) v146 t145) ∧ Aside0 (Below w.heap.size w w'))
            case atStart => exact ⟨(t142), (0), (by first | rfl | (simp; done) | (simp [*]; done)), H', ⟨Nat.le_refl _⟩, ⟨by (with_reducible repeat (first | apply Kd.S_alloc | apply Kd.S_drewN | apply Kd.S_drew)); exact HO_5.out⟩, ⟨by (with_reducible repeat (first | apply Kd.R_alloc | apply Kd.R_drewN | apply Kd.R_drew)); exact HO_10.out⟩, ⟨by (with_reducible repeat (first | apply Kd.R_alloc | apply Kd.R_drewN | apply Kd.R_drew)); exact HO_11.out⟩, ⟨by repeat (first | (with_reducible first | exact HB.out | apply below_alloc | apply pw_below_drewN | apply below_drew1) | exact HB.out)⟩⟩
            case round =>
             clear H'
             try clear c1
             try clear p1
             try clear q1
             try clear hx1
             try clear c2
             try clear p2
             try clear c3
             try clear c4
             try clear c4b0
             try clear hcv4
             try clear c5
             try clear hcv5
             try clear c6
             try clear c6b0
             try clear p6
             try clear c7
             try clear c7b0
             try clear c8
             try clear c8b0
             try clear c9
             try clear c9b0
             try clear c9b1
             try clear c10
             try clear c10b0
             try clear c10b1
             try clear c11
             try clear c11b0
             try clear c11b1
             try clear p11
             try clear q11
             try clear hx11
             try clear c13
             try clear c18
             try clear c18b0
             try clear c18b1
             try clear c19
             try clear c19b0
             try clear c19b1
             try clear c20
             try clear c20b0
             try clear c20b1
             try clear c22
             try clear c27
             try clear c27b0
             try clear c27b1
             try clear c28
             try clear c28b0
             try clear c28b1
             try clear c30
             try clear c43
             try clear c45
             try clear c45b0
             try clear c45b1
             try clear hcv47
             try clear hcv48
             try clear hcv49
             try clear hcv50
             try clear c53
             try clear hx119_0
             try clear p1
             try clear p11
             try clear p119
             try clear p2
             try clear p6
             try clear q1
             try clear q11
             try clear q119
             obtain ⟨x10_4, x12_4, rfl, HA, HK4, HO_5, HO_10, HO_11, HB⟩ := hrel
             cases gk with
             | zero => exact absurd HA.out (by simp [endonymlaw1_WireSums.l1])
             | succ k4 =>
              have H := HA.out
              clear HA
              simp only [endonymlaw1_WireSums.l1] at H
              by_cases c54 : x12_4 < (x10_4.length : Int)
              ·rw [if_pos c54] at H
               have c54b0 : decide (x12_4 < (x10_4.length : Int)) = true := decide_eq_true c54
               clear c54
               by_cases c55 : 0 ≤ x12_4
               ·rw [if_pos c55] at H
                have c55b0 : decide (0 ≤ x12_4) = true := decide_eq_true c55
                clear c55
                obtain ⟨y151, hy151⟩ : ∃ y_ : List Int, y_ = (x10_4.set (x12_4 : Int).toNat (((rd x10_4 x12_4) + 1) % 256)) := ⟨_, rfl⟩
                replace H : (endonymlaw1_WireSums.l1 k4 l0 y138 y151 t145 (wrap64 (x12_4 + 1))) = some r := by first | (rw [hy151]; with_reducible exact H) | (have H2_ := (Option.bind_some _ _).symm.trans H; rw [hy151]; with_reducible exact H2_) | (have H2_ := (Option.bind_some _ _).symm.trans H; with_reducible exact H2_) | with_reducible exact H | (rw [hy151]; exact H) | exact H
                have Ny151 := Aside0.mk hy151
                clear hy151
                have H' := Aside0.mk H
                clear H
                obtain ⟨Ao57, co57, eo57⟩ := Kd.R_slice HO_10.out
                subst eo57
                have p150 : 0 ≤ (x12_4 : Int) := of_decide_eq_true (by first | (with_reducible assumption) | assumption)
                have q150 : x12_4 < (x10_4.length : Int) := of_decide_eq_true (by first | (with_reducible assumption) | assumption)
                obtain ⟨ad150, e150, hx150_0⟩ := Kd.at_int (Kd.R_reads' HO_10.out).2.2 x12_4 p150 q150
                cases e150
                replace p150 := eq_true p150
                replace q150 := eq_true q150
                have p56 : 0 ≤ (x12_4 : Int) := of_decide_eq_true (by first | (with_reducible assumption) | assumption)
                have q56 : (x12_4 : Int) < ((x10_4.length : Int) : Int) := of_decide_eq_true (by first | (with_reducible assumption) | assumption)
                obtain ⟨go56, co56, eo56, gb56, gl56, cl56, HG56⟩ := Kd.R_form HO_10.out (by omega)
                (first | cases eo56 | (injection eo56 with ea_ en_ ec_; (first | subst ea_ | (injection ea_ with ea_; subst ea_)); subst ec_; clear en_))
                have GB56 := Aside0.mk gb56
                have GG56 := Aside0.mk HG56
                clear gb56 gl56 HG56
                (first | simp only [add_plain] at hx150_0 | skip)
                obtain ⟨hx56_0, hf56_0⟩ := Kd.R_celln 0 HO_10.out (x12_4 : Int) p56 q56
                replace p56 := eq_true p56
                replace q56 := eq_true q56
                have HP58 := Kd.R_putg HO_10.out (x12_4 : Int) (((rd x10_4 x12_4) + 1) % 256)
                go_wp2_with (first | ((with_reducible refine gate_store (t := 5) (p := 89) rfl ?_); (try (rw [drewN_self wr]; generalize hq_ : World.drewN wr _ = wr; have n0_ := Aside0.mk (Kd.S_at hq_ HO_5.out); have n1_ := Aside0.mk (Kd.R_at hq_ HO_10.out); have n2_ := Aside0.mk (Kd.R_at hq_ HO_11.out); have n3_ := Aside0.mk (below_at hq_ HB.out); clear hq_ HO_5 HO_10 HO_11 HB; have HO_5 := n0_; have HO_10 := n1_; have HO_11 := n2_; have HB := n3_; clear n0_ n1_ n2_ n3_; (try (have HP58 := Kd.R_putg HO_10.out (x12_4 : Int) (((rd x10_4 x12_4) + 1) % 256))))); refine store_event (t := 5) (p := 89) (v := ?vo_w59) (w1 := (wr.setCell ⟨go56, (x12_4 : Int).toNat, none⟩ (.int .u8 (((rd x10_4 x12_4) + 1) % 256)))) ?hg ?ho ?hn ?hr ?_; (case ho => rfl); (case hg => rfl); (case hn => rfl); (case hr => first | (go_simp; done) | (go_simp; rfl)); intro w59 hw; have hg : wr.grownBy w59 (some go56) := (by rw [hw]; exact HP58.2); have hp_ : Kd.R (Kd.int .u8) 5 w59 w.heap.size (fun k_ => some k_ ≠ (v146 : Value).ownBlock) (.slice (some ⟨go56, 0, none⟩) x10_4.length co57) y151 := (by rw [hw, Ny151.out]; exact HP58.1); clear HP58; have n0_ := Aside0.mk (Kd.S_after (v := (.slice (some ⟨go56, 0, none⟩) x10_4.length co57)) (v1 := (.slice (some ⟨go56, 0, none⟩) x10_4.length co57)) (ok := (fun k_ => some k_ ≠ (v146 : Value).ownBlock)) (by (with_reducible repeat (first | apply Kd.S_alloc | apply Kd.S_drewN | apply Kd.S_drew)); exact Kd.S_mono HO_5.out (fun _ hk => ⟨hk.2, hk.1⟩)) hg (.inl rfl)); have n1_ := Aside0.mk (hp_); have n2_ := Aside0.mk (Kd.R_after (v := (.slice (some ⟨go56, 0, none⟩) x10_4.length co57)) (v1 := (.slice (some ⟨go56, 0, none⟩) x10_4.length co57)) (ok := (fun _ => True)) (by (with_reducible repeat (first | apply Kd.R_alloc | apply Kd.R_drewN | apply Kd.R_drew)); exact Kd.R_mono HO_11.out (fun _ hk => ⟨trivial, hk⟩)) hg (.inl rfl)); have n3_ := Aside0.mk ((by rw [hw]; exact below_set (HB.out) GB56.out : Below w.heap.size w w59)); clear HO_5; clear HO_10; clear HO_11; clear HB; have HO_5 := n0_; have HO_10 := n1_; have HO_11 := n2_; have HB := n3_; clear n0_ n1_ n2_ n3_; clear hg hw hp_))
                repeat (go_quiet (first | ((with_reducible refine gate_store (t := 5) (p := 89) rfl ?_); (try (rw [drewN_self wr]; generalize hq_ : World.drewN wr _ = wr; have n0_ := Aside0.mk (Kd.S_at hq_ HO_5.out); have n1_ := Aside0.mk (Kd.R_at hq_ HO_10.out); have n2_ := Aside0.mk (Kd.R_at hq_ HO_11.out); have n3_ := Aside0.mk (below_at hq_ HB.out); clear hq_ HO_5 HO_10 HO_11 HB; have HO_5 := n0_; have HO_10 := n1_; have HO_11 := n2_; have HB := n3_; clear n0_ n1_ n2_ n3_; (try (have HP58 := Kd.R_putg HO_10.out (x12_4 : Int) (((rd x10_4 x12_4) + 1) % 256))))); refine store_event (t := 5) (p := 89) (v := ?vo_w59) (w1 := (wr.setCell ⟨go56, (x12_4 : Int).toNat, none⟩ (.int .u8 (((rd x10_4 x12_4) + 1) % 256)))) ?hg ?ho ?hn ?hr ?_; (case ho => rfl); (case hg => rfl); (case hn => rfl); (case hr => first | (go_simp; done) | (go_simp; rfl)); intro w59 hw; have hg : wr.grownBy w59 (some go56) := (by rw [hw]; exact HP58.2); have hp_ : Kd.R (Kd.int .u8) 5 w59 w.heap.size (fun k_ => some k_ ≠ (v146 : Value).ownBlock) (.slice (some ⟨go56, 0, none⟩) x10_4.length co57) y151 := (by rw [hw, Ny151.out]; exact HP58.1); clear HP58; have n0_ := Aside0.mk (Kd.S_after (v := (.slice (some ⟨go56, 0, none⟩) x10_4.length co57)) (v1 := (.slice (some ⟨go56, 0, none⟩) x10_4.length co57)) (ok := (fun k_ => some k_ ≠ (v146 : Value).ownBlock)) (by (with_reducible repeat (first | apply Kd.S_alloc | apply Kd.S_drewN | apply Kd.S_drew)); exact Kd.S_mono HO_5.out (fun _ hk => ⟨hk.2, hk.1⟩)) hg (.inl rfl)); have n1_ := Aside0.mk (hp_); have n2_ := Aside0.mk (Kd.R_after (v := (.slice (some ⟨go56, 0, none⟩) x10_4.length co57)) (v1 := (.slice (some ⟨go56, 0, none⟩) x10_4.length co57)) (ok := (fun _ => True)) (by (with_reducible repeat (first | apply Kd.R_alloc | apply Kd.R_drewN | apply Kd.R_drew)); exact Kd.R_mono HO_11.out (fun _ hk => ⟨trivial, hk⟩)) hg (.inl rfl)); have n3_ := Aside0.mk ((by rw [hw]; exact below_set (HB.out) GB56.out : Below w.heap.size w w59)); clear HO_5; clear HO_10; clear HO_11; clear HB; have HO_5 := n0_; have HO_10 := n1_; have HO_11 := n2_; have HB := n3_; clear n0_ n1_ n2_ n3_; clear hg hw hp_)); try go_wp2_with (first | ((with_reducible refine gate_store (t := 5) (p := 89) rfl ?_); (try (rw [drewN_self wr]; generalize hq_ : World.drewN wr _ = wr; have n0_ := Aside0.mk (Kd.S_at hq_ HO_5.out); have n1_ := Aside0.mk (Kd.R_at hq_ HO_10.out); have n2_ := Aside0.mk (Kd.R_at hq_ HO_11.out); have n3_ := Aside0.mk (below_at hq_ HB.out); clear hq_ HO_5 HO_10 HO_11 HB; have HO_5 := n0_; have HO_10 := n1_; have HO_11 := n2_; have HB := n3_; clear n0_ n1_ n2_ n3_; (try (have HP58 := Kd.R_putg HO_10.out (x12_4 : Int) (((rd x10_4 x12_4) + 1) % 256))))); refine store_event (t := 5) (p := 89) (v := ?vo_w59) (w1 := (wr.setCell ⟨go56, (x12_4 : Int).toNat, none⟩ (.int .u8 (((rd x10_4 x12_4) + 1) % 256)))) ?hg ?ho ?hn ?hr ?_; (case ho => rfl); (case hg => rfl); (case hn => rfl); (case hr => first | (go_simp; done) | (go_simp; rfl)); intro w59 hw; have hg : wr.grownBy w59 (some go56) := (by rw [hw]; exact HP58.2); have hp_ : Kd.R (Kd.int .u8) 5 w59 w.heap.size (fun k_ => some k_ ≠ (v146 : Value).ownBlock) (.slice (some ⟨go56, 0, none⟩) x10_4.length co57) y151 := (by rw [hw, Ny151.out]; exact HP58.1); clear HP58; have n0_ := Aside0.mk (Kd.S_after (v := (.slice (some ⟨go56, 0, none⟩) x10_4.length co57)) (v1 := (.slice (some ⟨go56, 0, none⟩) x10_4.length co57)) (ok := (fun k_ => some k_ ≠ (v146 : Value).ownBlock)) (by (with_reducible repeat (first | apply Kd.S_alloc | apply Kd.S_drewN | apply Kd.S_drew)); exact Kd.S_mono HO_5.out (fun _ hk => ⟨hk.2, hk.1⟩)) hg (.inl rfl)); have n1_ := Aside0.mk (hp_); have n2_ := Aside0.mk (Kd.R_after (v := (.slice (some ⟨go56, 0, none⟩) x10_4.length co57)) (v1 := (.slice (some ⟨go56, 0, none⟩) x10_4.length co57)) (ok := (fun _ => True)) (by (with_reducible repeat (first | apply Kd.R_alloc | apply Kd.R_drewN | apply Kd.R_drew)); exact Kd.R_mono HO_11.out (fun _ hk => ⟨trivial, hk⟩)) hg (.inl rfl)); have n3_ := Aside0.mk ((by rw [hw]; exact below_set (HB.out) GB56.out : Below w.heap.size w w59)); clear HO_5; clear HO_10; clear HO_11; clear HB; have HO_5 := n0_; have HO_10 := n1_; have HO_11 := n2_; have HB := n3_; clear n0_ n1_ n2_ n3_; clear hg hw hp_)))
                go_roundg k4
                case measure => have := HK1.out; have := HJ2.out; have := HJ33.out; have := HK4.out; omega
                case rel => exact ⟨(y151), (wrap64 (x12_4 + 1)), (by first | rfl | (simp; done) | (simp [*]; done)), H', ⟨by have := HK1.out; have := HJ2.out; have := HJ33.out; have := HK4.out; omega⟩, ⟨by (with_reducible repeat (first | apply Kd.S_alloc | apply Kd.S_drewN | apply Kd.S_drew)); exact Kd.S_mono HO_5.out (fun _ hk => ⟨hk.2, hk.1⟩)⟩, ⟨by (with_reducible repeat (first | apply Kd.R_alloc | apply Kd.R_drewN | apply Kd.R_drew)); exact HO_10.out⟩, ⟨by (with_reducible repeat (first | apply Kd.R_alloc | apply Kd.R_drewN | apply Kd.R_drew)); exact Kd.R_mono HO_11.out (fun _ hk => hk.2)⟩, ⟨by repeat (first | (with_reducible first | exact HB.out | apply below_alloc | apply pw_below_drewN | apply below_drew1) | exact HB.out)⟩⟩
               ·rw [if_neg c55] at H
                exact absurd H (by simp)
              ·rw [if_neg c54] at H
               have c54b0 : decide (x12_4 < (x10_4.length : Int)) = false := decide_eq_false c54
               clear c54
               by_cases c60 : x10_4.length < 140737488355328
               ·rw [if_pos c60] at H
                have LMc60 := Aside0.mk c60
                clear c60
                obtain ⟨y152, hy152⟩ : ∃ y_ : List Int, y_ = (x10_4 ++ [9]) := ⟨_, rfl⟩
                replace H : (endonymlaw1_WireSums.l2 k4 l0 y138 0 t145 y152 0) = some r := by first | (rw [hy152]; with_reducible exact H) | (have H2_ := (Option.bind_some _ _).symm.trans H; rw [hy152]; with_reducible exact H2_) | (have H2_ := (Option.bind_some _ _).symm.trans H; with_reducible exact H2_) | with_reducible exact H | (rw [hy152]; exact H) | exact H
                have Ny152 := Aside0.mk hy152
                clear hy152
                have H' := Aside0.mk H
                clear H
                obtain ⟨Ao61, co61, eo61⟩ := Kd.R_slice HO_10.out
                subst eo61
                go_wp2_with (first | ((with_reducible refine gate_builtin (b := .append) (xs := #[.tmp 90, .tmp 91]) rfl ?_); at_builtin; refine Kd.R_append (Kd.int .u8) (w0 := w) w.heap.size rfl (.tmp 90) (.tmp 91) 22 5 (.int .u8 0) 1 rfl Try.underlying22 info5 rfl (by decide) (by omega) (.slice Ao61 x10_4.length co61) x10_4 9 [.int .u8 9] (fun k_ => some k_ ≠ (v146 : Value).ownBlock) (fun _ => False) rfl rfl ?aP (fun _ hk => hk.elim) ?aF ?aO ?aB ?aS ?aL ?_; (case aP => exact rfl); (case aB => exact (by repeat (first | (with_reducible first | exact HB.out | apply below_alloc | apply pw_below_drewN | apply below_drew1) | exact HB.out))); (case aF => exact (fun k_ hk => Kd.fresh' (Kd.R_lt (by (with_reducible repeat (first | apply Kd.R_alloc | apply Kd.R_drewN | apply Kd.R_drew)); exact HO_11.out)) k_ hk)); (case aO => exact (by (with_reducible repeat (first | apply Kd.R_alloc | apply Kd.R_drewN | apply Kd.R_drew)); exact HO_10.out)); (case aS => exact (below_size (by repeat (first | (with_reducible first | exact HB.out | apply below_alloc | apply pw_below_drewN | apply below_drew1) | exact HB.out)))); (case aL => have := LMc60.out; omega); intro v153 w62 ho hb hg hat; rw [← Ny152.out] at ho; have n0_ := Aside0.mk (Kd.S_after (ok := (fun k_ => some k_ ≠ (v146 : Value).ownBlock)) (by (with_reducible repeat (first | apply Kd.S_alloc | apply Kd.S_drewN | apply Kd.S_drew)); exact Kd.S_mono HO_5.out (fun _ hk => ⟨hk.2, hk.1⟩)) hg hat); have n1_ := Aside0.mk (Kd.R_after (ok := (fun _ => True)) (by (with_reducible repeat (first | apply Kd.R_alloc | apply Kd.R_drewN | apply Kd.R_drew)); exact Kd.R_mono HO_11.out (fun _ hk => ⟨trivial, hk⟩)) hg hat); have n2_ := Aside0.mk (hb); have n3_ := Aside0.mk (ho); clear HO_5; clear HO_11; clear HB; clear HO_10; have HO_5 := n0_; have HO_11 := n1_; have HB := n2_; have HO154 := n3_; clear n0_ n1_ n2_ n3_; clear ho hb hg hat))
                repeat (go_quiet (first | ((with_reducible refine gate_builtin (b := .append) (xs := #[.tmp 90, .tmp 91]) rfl ?_); at_builtin; refine Kd.R_append (Kd.int .u8) (w0 := w) w.heap.size rfl (.tmp 90) (.tmp 91) 22 5 (.int .u8 0) 1 rfl Try.underlying22 info5 rfl (by decide) (by omega) (.slice Ao61 x10_4.length co61) x10_4 9 [.int .u8 9] (fun k_ => some k_ ≠ (v146 : Value).ownBlock) (fun _ => False) rfl rfl ?aP (fun _ hk => hk.elim) ?aF ?aO ?aB ?aS ?aL ?_; (case aP => exact rfl); (case aB => exact (by repeat (first | (with_reducible first | exact HB.out | apply below_alloc | apply pw_below_drewN | apply below_drew1) | exact HB.out))); (case aF => exact (fun k_ hk => Kd.fresh' (Kd.R_lt (by (with_reducible repeat (first | apply Kd.R_alloc | apply Kd.R_drewN | apply Kd.R_drew)); exact HO_11.out)) k_ hk)); (case aO => exact (by (with_reducible repeat (first | apply Kd.R_alloc | apply Kd.R_drewN | apply Kd.R_drew)); exact HO_10.out)); (case aS => exact (below_size (by repeat (first | (with_reducible first | exact HB.out | apply below_alloc | apply pw_below_drewN | apply below_drew1) | exact HB.out)))); (case aL => have := LMc60.out; omega); intro v153 w62 ho hb hg hat; rw [← Ny152.out] at ho; have n0_ := Aside0.mk (Kd.S_after (ok := (fun k_ => some k_ ≠ (v146 : Value).ownBlock)) (by (with_reducible repeat (first | apply Kd.S_alloc | apply Kd.S_drewN | apply Kd.S_drew)); exact Kd.S_mono HO_5.out (fun _ hk => ⟨hk.2, hk.1⟩)) hg hat); have n1_ := Aside0.mk (Kd.R_after (ok := (fun _ => True)) (by (with_reducible repeat (first | apply Kd.R_alloc | apply Kd.R_drewN | apply Kd.R_drew)); exact Kd.R_mono HO_11.out (fun _ hk => ⟨trivial, hk⟩)) hg hat); have n2_ := Aside0.mk (hb); have n3_ := Aside0.mk (ho); clear HO_5; clear HO_11; clear HB; clear HO_10; have HO_5 := n0_; have HO_11 := n1_; have HB := n2_; have HO154 := n3_; clear n0_ n1_ n2_ n3_; clear ho hb hg hat)); try go_wp2_with (first | ((with_reducible refine gate_builtin (b := .append) (xs := #[.tmp 90, .tmp 91]) rfl ?_); at_builtin; refine Kd.R_append (Kd.int .u8) (w0 := w) w.heap.size rfl (.tmp 90) (.tmp 91) 22 5 (.int .u8 0) 1 rfl Try.underlying22 info5 rfl (by decide) (by omega) (.slice Ao61 x10_4.length co61) x10_4 9 [.int .u8 9] (fun k_ => some k_ ≠ (v146 : Value).ownBlock) (fun _ => False) rfl rfl ?aP (fun _ hk => hk.elim) ?aF ?aO ?aB ?aS ?aL ?_; (case aP => exact rfl); (case aB => exact (by repeat (first | (with_reducible first | exact HB.out | apply below_alloc | apply pw_below_drewN | apply below_drew1) | exact HB.out))); (case aF => exact (fun k_ hk => Kd.fresh' (Kd.R_lt (by (with_reducible repeat (first | apply Kd.R_alloc | apply Kd.R_drewN | apply Kd.R_drew)); exact HO_11.out)) k_ hk)); (case aO => exact (by (with_reducible repeat (first | apply Kd.R_alloc | apply Kd.R_drewN | apply Kd.R_drew)); exact HO_10.out)); (case aS => exact (below_size (by repeat (first | (with_reducible first | exact HB.out | apply below_alloc | apply pw_below_drewN | apply below_drew1) | exact HB.out)))); (case aL => have := LMc60.out; omega); intro v153 w62 ho hb hg hat; rw [← Ny152.out] at ho; have n0_ := Aside0.mk (Kd.S_after (ok := (fun k_ => some k_ ≠ (v146 : Value).ownBlock)) (by (with_reducible repeat (first | apply Kd.S_alloc | apply Kd.S_drewN | apply Kd.S_drew)); exact Kd.S_mono HO_5.out (fun _ hk => ⟨hk.2, hk.1⟩)) hg hat); have n1_ := Aside0.mk (Kd.R_after (ok := (fun _ => True)) (by (with_reducible repeat (first | apply Kd.R_alloc | apply Kd.R_drewN | apply Kd.R_drew)); exact Kd.R_mono HO_11.out (fun _ hk => ⟨trivial, hk⟩)) hg hat); have n2_ := Aside0.mk (hb); have n3_ := Aside0.mk (ho); clear HO_5; clear HO_11; clear HB; clear HO_10; have HO_5 := n0_; have HO_11 := n1_; have HB := n2_; have HO154 := n3_; clear n0_ n1_ n2_ n3_; clear ho hb hg hat)))
                go_loopg [6, 14] k4 (fun kq v6 v14 w' => ∃ (x6_5 : Int) (x14_5 : Int), v6 = .int .i64 x6_5 ∧ v14 = .int .i64 x14_5 ∧ Aside0 (endonymlaw1_WireSums.l2 kq l0 y138 x6_5 t145 y152 x14_5 = some r) ∧ Aside0 (kq ≤ k4) ∧ Aside0 (Kd.S KM 22 w' w.heap.size (fun k_ => some k_ ≠ (v146 : Value).ownBlock ∧ some k_ ≠ (v153 : Value).ownBlock) (.slice Ao39 y138.length co39) y138) ∧ Aside0 (Kd.R (Kd.int .u8) 5 w' w.heap.size (fun k_ => some k_ ≠ (v153 : Value).ownBlock) v146 t145) ∧ Aside0 (Kd.R (Kd.int .u8) 5 w' w.heap.size (fun k_ => some k_ ≠ (v146 : Value).ownBlock) v153 y152) ∧ Aside0 (Below w.heap.size w w'))
                case atStart => exact ⟨(0), (0), (by first | rfl | (simp; done) | (simp [*]; done)), (by first | rfl | (simp; done) | (simp [*]; done)), H', ⟨Nat.le_refl _⟩, ⟨by (with_reducible repeat (first | apply Kd.S_alloc | apply Kd.S_drewN | apply Kd.S_drew)); exact HO_5.out⟩, ⟨by (with_reducible repeat (first | apply Kd.R_alloc | apply Kd.R_drewN | apply Kd.R_drew)); exact Kd.R_mono HO_11.out (fun _ hk => hk.2)⟩, ⟨by (with_reducible repeat (first | apply Kd.R_alloc | apply Kd.R_drewN | apply Kd.R_drew)); exact HO154.out⟩, ⟨by repeat (first | (with_reducible first | exact HB.out | apply below_alloc | apply pw_below_drewN | apply below_drew1) | exact HB.out)⟩⟩
                case round =>
                 clear H'
                 try clear c1
                 try clear p1
                 try clear q1
                 try clear hx1
                 try clear c2
                 try clear p2
                 try clear c3
                 try clear c4
                 try clear c4b0
                 try clear hcv4
                 try clear c5
                 try clear p5
                 try clear q5
                 try clear hx5
                 try clear hcv5
                 try clear hf5
                 try clear c6
                 try clear c6b0
                 try clear p6
                 try clear c7
                 try clear c7b0
                 try clear c8
                 try clear c8b0
                 try clear c9
                 try clear c9b0
                 try clear c9b1
                 try clear c10
                 try clear c10b0
                 try clear c10b1
                 try clear c11
                 try clear c11b0
                 try clear c11b1
                 try clear p11
                 try clear q11
                 try clear hx11
                 try clear c13
                 try clear p15
                 try clear q15
                 try clear hx15
                 try clear c18
                 try clear c18b0
                 try clear c18b1
                 try clear c19
                 try clear c19b0
                 try clear c19b1
                 try clear c20
                 try clear c20b0
                 try clear c20b1
                 try clear c22
                 try clear c27
                 try clear c27b0
                 try clear c27b1
                 try clear c28
                 try clear c28b0
                 try clear c28b1
                 try clear c30
                 try clear c43
                 try clear c45
                 try clear c45b0
                 try clear c45b1
                 try clear hcv47
                 try clear hcv48
                 try clear hcv49
                 try clear hcv50
                 try clear c53
                 try clear c54
                 try clear c54b0
                 try clear c55
                 try clear c55b0
                 try clear p56
                 try clear q56
                 try clear hx56
                 try clear hf56
                 try clear c60
                 try clear hx119_0
                 try clear hx150_0
                 try clear hx56_0
                 try clear p1
                 try clear p11
                 try clear p119
                 try clear p150
                 try clear p2
                 try clear p56
                 try clear p6
                 try clear q1
                 try clear q11
                 try clear q119
                 try clear q150
                 try clear q56
                 obtain ⟨x6_5, x14_5, rfl, rfl, HA, HK5, HO_5, HO_11, HO_13, HB⟩ := hrel
                 cases gk with
                 | zero => exact absurd HA.out (by simp [endonymlaw1_WireSums.l2])
                 | succ k5 =>
                  have H := HA.out
                  clear HA
                  simp only [endonymlaw1_WireSums.l2] at H
                  by_cases c63 : x14_5 < (y138.length : Int)
                  ·rw [if_pos c63] at H
                   have c63b0 : decide (x14_5 < (y138.length : Int)) = true := decide_eq_true c63
                   clear c63
                   by_cases c64 : 0 ≤ x14_5
                   ·rw [if_pos c64] at H
                    have c64b0 : decide (0 ≤ x14_5) = true := decide_eq_true c64
                    clear c64
                    by_cases c65 : 0 ≤ x6_5
                    ·rw [if_pos c65] at H
                     have c65b0 := eq_true c65
                     have c65b1 : decide (0 ≤ x6_5) = true := decide_eq_true c65
                     clear c65
                     by_cases c66 : x6_5 ≤ (wrap64 (x6_5 + ((rd_L1 y138 x14_5).length : Int)))
                     ·rw [if_pos c66] at H
                      have c66b0 := eq_true c66
                      have c66b1 : decide (x6_5 ≤ (wrap64 (x6_5 + ((rd_L1 y138 x14_5).length : Int)))) = true := decide_eq_true c66
                      by_cases c67 : (wrap64 (x6_5 + ((rd_L1 y138 x14_5).length : Int))) ≤ (l0.length : Int)
                      ·rw [if_pos c67] at H
                       have c67b0 := eq_true c67
                       have c67b1 : decide ((wrap64 (x6_5 + ((rd_L1 y138 x14_5).length : Int))) ≤ (l0.length : Int)) = true := decide_eq_true c67
                       replace H := Option.bind_eq_some_iff.mp H
                       obtain ⟨t158, A680, H⟩ := H
                       replace H : (if t158 = true then (endonymlaw1_WireSums.l2 k5 l0 y138 (wrap64 (x6_5 + ((rd_L1 y138 x14_5).length : Int))) t145 y152 (wrap64 (x14_5 + 1))) else (some false)) = some r := H
                       have A68 := Aside0.mk A680
                       clear A680
                       by_cases c69 : t158 = true
                       ·subst c69
                        have H1 : (endonymlaw1_WireSums.l2 k5 l0 y138 (wrap64 (x6_5 + ((rd_L1 y138 x14_5).length : Int))) t145 y152 (wrap64 (x14_5 + 1))) = some r := by rw [if_pos rfl] at H; exact H
                        clear H
                        have H := H1
                        clear H1
                        have H' := Aside0.mk H
                        clear H
                        have p155 : 0 ≤ (x14_5 : Int) := of_decide_eq_true (by first | (with_reducible assumption) | assumption)
                        have q155 : x14_5 < (y138.length : Int) := of_decide_eq_true (by first | (with_reducible assumption) | assumption)
                        obtain ⟨ad155, A155_0, c155_0, e155, hx155_0, hl155_0, hi155_0⟩ := at_KM (Kd.S_reads' HO_5.out).2.2 x14_5 p155 q155
                        cases e155
                        have HR155_0 := Aside0.mk hi155_0
                        have HC155_0 := Aside0.mk hl155_0
                        clear hi155_0 hl155_0
                        replace p155 := eq_true p155
                        replace q155 := eq_true q155
                        have p156 : 0 ≤ (x14_5 : Int) := of_decide_eq_true (by first | (with_reducible assumption) | assumption)
                        have q156 : x14_5 < (y138.length : Int) := of_decide_eq_true (by first | (with_reducible assumption) | assumption)
                        obtain ⟨ad156, A156_0, c156_0, e156, hx156_0, hl156_0, hi156_0⟩ := at_KM (Kd.S_reads' HO_5.out).2.2 x14_5 p156 q156
                        obtain rfl : ad155 = ad156 := (by injection e156)
                        have HR156_0 := Aside0.mk hi156_0
                        have HC156_0 := Aside0.mk hl156_0
                        clear hi156_0 hl156_0
                        replace p156 := eq_true p156
                        replace q156 := eq_true q156
                        have ea_ := Option.some.inj (hx155_0.symm.trans hx156_0)
                        injection ea_ with ea_ en_ ec_
                        subst ea_
                        subst ec_
                        clear en_
                        obtain ⟨i070, hi070, _, hsz70, _⟩ := info_parts info5
                        obtain ⟨A70, hcut70, hA70, hC70⟩ := print_mid_of (P := Try.prog) (Value.int .u8) 0 22 5 .i64 .i64 Try.underlying22 hi070 hsz70 A0 c0 l0 x6_5 (wrap64 (x6_5 + ((rd_L1 y138 x14_5).length : Int))) (of_decide_eq_true (by first | (with_reducible assumption) | assumption)) (by first | omega | exact of_decide_eq_true (by first | (with_reducible assumption) | assumption)) (of_decide_eq_true (by first | (with_reducible assumption) | assumption)) HC0.out
                        have HR157 := Aside0.mk (Kd.C_of_reads (h1 := fun _ => rfl) (hA70 _ (Kd.reads_of_C HR0.out)))
                        have HC157 := Aside0.mk hC70
                        clear hA70 hC70 hi070 hsz70
                        go_wp2_with (first | (go_at_call 18; (with_reducible refine (endonymlaw1_whole.calls2 HR156_0.out.1 _ (rd_L1 y138 x14_5) _ _ ((l0.take ((wrap64 (x6_5 + ((rd_L1 y138 x14_5).length : Int))) : Int).toNat).drop (x6_5 : Int).toNat) true _ ?side1 ?side2 ?side3 ?side4 A68.out _ (by first | rfl | (simp only [List.length_drop, List.length_take]; first | done | omega | (simp only [decide_eq_true_eq] at *; omega))) _ (by first | rfl | (simp only [List.length_drop, List.length_take]; first | done | omega | (simp only [decide_eq_true_eq] at *; omega)))).mono ?_); (case side1 => repeat (first | exact (by repeat (first | (with_reducible exact (HR156_0.out).2) | (with_reducible refine Kd.C_alloc ?_ _) | (with_reducible refine Kd.C_drewN ?_ _) | (with_reducible refine Kd.C_drew ?_) | exact (HR156_0.out).2)) | (with_reducible refine Kd.C_alloc ?_ _) | (with_reducible refine Kd.C_drewN ?_ _) | (with_reducible refine Kd.C_drew ?_))); (case side2 => exact HC156_0.out); (case side3 => repeat (first | exact (Kd.C_below HR157.out HB.out) | (with_reducible refine Kd.C_alloc ?_ _) | (with_reducible refine Kd.C_drewN ?_ _) | (with_reducible refine Kd.C_drew ?_))); (case side4 => exact HC157.out); rintro e w' ⟨rfl, ⟨nd, rfl⟩⟩; (try first | exact ⟨rfl, _, World.drewN_drewN _ _ _⟩ | exact ⟨rfl, _, Eq.trans (World.drewN_drewN _ _ _) (congrArg (World.drewN _) (Nat.add_assoc _ _ _))⟩)))
                        repeat (go_quiet (first | (go_at_call 18; (with_reducible refine (endonymlaw1_whole.calls2 HR156_0.out.1 _ (rd_L1 y138 x14_5) _ _ ((l0.take ((wrap64 (x6_5 + ((rd_L1 y138 x14_5).length : Int))) : Int).toNat).drop (x6_5 : Int).toNat) true _ ?side1 ?side2 ?side3 ?side4 A68.out _ (by first | rfl | (simp only [List.length_drop, List.length_take]; first | done | omega | (simp only [decide_eq_true_eq] at *; omega))) _ (by first | rfl | (simp only [List.length_drop, List.length_take]; first | done | omega | (simp only [decide_eq_true_eq] at *; omega)))).mono ?_); (case side1 => repeat (first | exact (by repeat (first | (with_reducible exact (HR156_0.out).2) | (with_reducible refine Kd.C_alloc ?_ _) | (with_reducible refine Kd.C_drewN ?_ _) | (with_reducible refine Kd.C_drew ?_) | exact (HR156_0.out).2)) | (with_reducible refine Kd.C_alloc ?_ _) | (with_reducible refine Kd.C_drewN ?_ _) | (with_reducible refine Kd.C_drew ?_))); (case side2 => exact HC156_0.out); (case side3 => repeat (first | exact (Kd.C_below HR157.out HB.out) | (with_reducible refine Kd.C_alloc ?_ _) | (with_reducible refine Kd.C_drewN ?_ _) | (with_reducible refine Kd.C_drew ?_))); (case side4 => exact HC157.out); rintro e w' ⟨rfl, ⟨nd, rfl⟩⟩; (try first | exact ⟨rfl, _, World.drewN_drewN _ _ _⟩ | exact ⟨rfl, _, Eq.trans (World.drewN_drewN _ _ _) (congrArg (World.drewN _) (Nat.add_assoc _ _ _))⟩))); try go_wp2_with (first | (go_at_call 18; (with_reducible refine (endonymlaw1_whole.calls2 HR156_0.out.1 _ (rd_L1 y138 x14_5) _ _ ((l0.take ((wrap64 (x6_5 + ((rd_L1 y138 x14_5).length : Int))) : Int).toNat).drop (x6_5 : Int).toNat) true _ ?side1 ?side2 ?side3 ?side4 A68.out _ (by first | rfl | (simp only [List.length_drop, List.length_take]; first | done | omega | (simp only [decide_eq_true_eq] at *; omega))) _ (by first | rfl | (simp only [List.length_drop, List.length_take]; first | done | omega | (simp only [decide_eq_true_eq] at *; omega)))).mono ?_); (case side1 => repeat (first | exact (by repeat (first | (with_reducible exact (HR156_0.out).2) | (with_reducible refine Kd.C_alloc ?_ _) | (with_reducible refine Kd.C_drewN ?_ _) | (with_reducible refine Kd.C_drew ?_) | exact (HR156_0.out).2)) | (with_reducible refine Kd.C_alloc ?_ _) | (with_reducible refine Kd.C_drewN ?_ _) | (with_reducible refine Kd.C_drew ?_))); (case side2 => exact HC156_0.out); (case side3 => repeat (first | exact (Kd.C_below HR157.out HB.out) | (with_reducible refine Kd.C_alloc ?_ _) | (with_reducible refine Kd.C_drewN ?_ _) | (with_reducible refine Kd.C_drew ?_))); (case side4 => exact HC157.out); rintro e w' ⟨rfl, ⟨nd, rfl⟩⟩; (try first | exact ⟨rfl, _, World.drewN_drewN _ _ _⟩ | exact ⟨rfl, _, Eq.trans (World.drewN_drewN _ _ _) (congrArg (World.drewN _) (Nat.add_assoc _ _ _))⟩))))
                        go_roundg k5
                        case measure => have := HK1.out; have := HJ2.out; have := HJ33.out; have := HK4.out; have := HK5.out; omega
                        case rel => exact ⟨(wrap64 (x6_5 + ((rd_L1 y138 x14_5).length : Int))), (wrap64 (x14_5 + 1)), (by first | rfl | (simp; done) | (simp [*]; done)), (by first | rfl | (simp; done) | (simp [*]; done)), H', ⟨by have := HK1.out; have := HJ2.out; have := HJ33.out; have := HK4.out; have := HK5.out; omega⟩, ⟨by (with_reducible repeat (first | apply Kd.S_alloc | apply Kd.S_drewN | apply Kd.S_drew)); exact HO_5.out⟩, ⟨by (with_reducible repeat (first | apply Kd.R_alloc | apply Kd.R_drewN | apply Kd.R_drew)); exact HO_11.out⟩, ⟨by (with_reducible repeat (first | apply Kd.R_alloc | apply Kd.R_drewN | apply Kd.R_drew)); exact HO_13.out⟩, ⟨by repeat (first | (with_reducible first | exact HB.out | apply below_alloc | apply pw_below_drewN | apply below_drew1) | exact HB.out)⟩⟩
                       ·replace c69 := Bool.eq_false_iff.mpr c69
                        subst c69
                        have H1 : (some false) = some r := by rw [if_neg (show ¬ (false = true) by decide)] at H; exact H
                        clear H
                        have H := H1
                        clear H1
                        obtain rfl := Option.some.inj H
                        have p155 : 0 ≤ (x14_5 : Int) := of_decide_eq_true (by first | (with_reducible assumption) | assumption)
                        have q155 : x14_5 < (y138.length : Int) := of_decide_eq_true (by first | (with_reducible assumption) | assumption)
                        obtain ⟨ad155, A155_0, c155_0, e155, hx155_0, hl155_0, hi155_0⟩ := at_KM (Kd.S_reads' HO_5.out).2.2 x14_5 p155 q155
                        cases e155
                        have HR155_0 := Aside0.mk hi155_0
                        have HC155_0 := Aside0.mk hl155_0
                        clear hi155_0 hl155_0
                        replace p155 := eq_true p155
                        replace q155 := eq_true q155
                        have p156 : 0 ≤ (x14_5 : Int) := of_decide_eq_true (by first | (with_reducible assumption) | assumption)
                        have q156 : x14_5 < (y138.length : Int) := of_decide_eq_true (by first | (with_reducible assumption) | assumption)
                        obtain ⟨ad156, A156_0, c156_0, e156, hx156_0, hl156_0, hi156_0⟩ := at_KM (Kd.S_reads' HO_5.out).2.2 x14_5 p156 q156
                        obtain rfl : ad155 = ad156 := (by injection e156)
                        have HR156_0 := Aside0.mk hi156_0
                        have HC156_0 := Aside0.mk hl156_0
                        clear hi156_0 hl156_0
                        replace p156 := eq_true p156
                        replace q156 := eq_true q156
                        have ea_ := Option.some.inj (hx155_0.symm.trans hx156_0)
                        injection ea_ with ea_ en_ ec_
                        subst ea_
                        subst ec_
                        clear en_
                        obtain ⟨i071, hi071, _, hsz71, _⟩ := info_parts info5
                        obtain ⟨A71, hcut71, hA71, hC71⟩ := print_mid_of (P := Try.prog) (Value.int .u8) 0 22 5 .i64 .i64 Try.underlying22 hi071 hsz71 A0 c0 l0 x6_5 (wrap64 (x6_5 + ((rd_L1 y138 x14_5).length : Int))) (of_decide_eq_true (by first | (with_reducible assumption) | assumption)) (by first | omega | exact of_decide_eq_true (by first | (with_reducible assumption) | assumption)) (of_decide_eq_true (by first | (with_reducible assumption) | assumption)) HC0.out
                        have HR157 := Aside0.mk (Kd.C_of_reads (h1 := fun _ => rfl) (hA71 _ (Kd.reads_of_C HR0.out)))
                        have HC157 := Aside0.mk hC71
                        clear hA71 hC71 hi071 hsz71
                        go_wp2_with (first | (go_at_call 18; (with_reducible refine (endonymlaw1_whole.calls2 HR156_0.out.1 _ (rd_L1 y138 x14_5) _ _ ((l0.take ((wrap64 (x6_5 + ((rd_L1 y138 x14_5).length : Int))) : Int).toNat).drop (x6_5 : Int).toNat) false _ ?side1 ?side2 ?side3 ?side4 A68.out _ (by first | rfl | (simp only [List.length_drop, List.length_take]; first | done | omega | (simp only [decide_eq_true_eq] at *; omega))) _ (by first | rfl | (simp only [List.length_drop, List.length_take]; first | done | omega | (simp only [decide_eq_true_eq] at *; omega)))).mono ?_); (case side1 => repeat (first | exact (by repeat (first | (with_reducible exact (HR156_0.out).2) | (with_reducible refine Kd.C_alloc ?_ _) | (with_reducible refine Kd.C_drewN ?_ _) | (with_reducible refine Kd.C_drew ?_) | exact (HR156_0.out).2)) | (with_reducible refine Kd.C_alloc ?_ _) | (with_reducible refine Kd.C_drewN ?_ _) | (with_reducible refine Kd.C_drew ?_))); (case side2 => exact HC156_0.out); (case side3 => repeat (first | exact (Kd.C_below HR157.out HB.out) | (with_reducible refine Kd.C_alloc ?_ _) | (with_reducible refine Kd.C_drewN ?_ _) | (with_reducible refine Kd.C_drew ?_))); (case side4 => exact HC157.out); rintro e w' ⟨rfl, ⟨nd, rfl⟩⟩; (try first | exact ⟨rfl, _, World.drewN_drewN _ _ _⟩ | exact ⟨rfl, _, Eq.trans (World.drewN_drewN _ _ _) (congrArg (World.drewN _) (Nat.add_assoc _ _ _))⟩)))
                        repeat (go_quiet (first | (go_at_call 18; (with_reducible refine (endonymlaw1_whole.calls2 HR156_0.out.1 _ (rd_L1 y138 x14_5) _ _ ((l0.take ((wrap64 (x6_5 + ((rd_L1 y138 x14_5).length : Int))) : Int).toNat).drop (x6_5 : Int).toNat) false _ ?side1 ?side2 ?side3 ?side4 A68.out _ (by first | rfl | (simp only [List.length_drop, List.length_take]; first | done | omega | (simp only [decide_eq_true_eq] at *; omega))) _ (by first | rfl | (simp only [List.length_drop, List.length_take]; first | done | omega | (simp only [decide_eq_true_eq] at *; omega)))).mono ?_); (case side1 => repeat (first | exact (by repeat (first | (with_reducible exact (HR156_0.out).2) | (with_reducible refine Kd.C_alloc ?_ _) | (with_reducible refine Kd.C_drewN ?_ _) | (with_reducible refine Kd.C_drew ?_) | exact (HR156_0.out).2)) | (with_reducible refine Kd.C_alloc ?_ _) | (with_reducible refine Kd.C_drewN ?_ _) | (with_reducible refine Kd.C_drew ?_))); (case side2 => exact HC156_0.out); (case side3 => repeat (first | exact (Kd.C_below HR157.out HB.out) | (with_reducible refine Kd.C_alloc ?_ _) | (with_reducible refine Kd.C_drewN ?_ _) | (with_reducible refine Kd.C_drew ?_))); (case side4 => exact HC157.out); rintro e w' ⟨rfl, ⟨nd, rfl⟩⟩; (try first | exact ⟨rfl, _, World.drewN_drewN _ _ _⟩ | exact ⟨rfl, _, Eq.trans (World.drewN_drewN _ _ _) (congrArg (World.drewN _) (Nat.add_assoc _ _ _))⟩))); try go_wp2_with (first | (go_at_call 18; (with_reducible refine (endonymlaw1_whole.calls2 HR156_0.out.1 _ (rd_L1 y138 x14_5) _ _ ((l0.take ((wrap64 (x6_5 + ((rd_L1 y138 x14_5).length : Int))) : Int).toNat).drop (x6_5 : Int).toNat) false _ ?side1 ?side2 ?side3 ?side4 A68.out _ (by first | rfl | (simp only [List.length_drop, List.length_take]; first | done | omega | (simp only [decide_eq_true_eq] at *; omega))) _ (by first | rfl | (simp only [List.length_drop, List.length_take]; first | done | omega | (simp only [decide_eq_true_eq] at *; omega)))).mono ?_); (case side1 => repeat (first | exact (by repeat (first | (with_reducible exact (HR156_0.out).2) | (with_reducible refine Kd.C_alloc ?_ _) | (with_reducible refine Kd.C_drewN ?_ _) | (with_reducible refine Kd.C_drew ?_) | exact (HR156_0.out).2)) | (with_reducible refine Kd.C_alloc ?_ _) | (with_reducible refine Kd.C_drewN ?_ _) | (with_reducible refine Kd.C_drew ?_))); (case side2 => exact HC156_0.out); (case side3 => repeat (first | exact (Kd.C_below HR157.out HB.out) | (with_reducible refine Kd.C_alloc ?_ _) | (with_reducible refine Kd.C_drewN ?_ _) | (with_reducible refine Kd.C_drew ?_))); (case side4 => exact HC157.out); rintro e w' ⟨rfl, ⟨nd, rfl⟩⟩; (try first | exact ⟨rfl, _, World.drewN_drewN _ _ _⟩ | exact ⟨rfl, _, Eq.trans (World.drewN_drewN _ _ _) (congrArg (World.drewN _) (Nat.add_assoc _ _ _))⟩))))
                        go_ret
                        exact ⟨by first | rfl | (simp [errW_none, errW_some] <;> rfl) | (simp [*, errW_none, errW_some] <;> rfl), by repeat (first | (with_reducible first | exact HB.out | apply below_alloc | apply pw_below_drewN | apply below_drew1) | exact HB.out)⟩
                      ·rw [if_neg c67] at H
                       exact absurd H (by simp)
                     ·rw [if_neg c66] at H
                      exact absurd H (by simp)
                    ·rw [if_neg c65] at H
                     exact absurd H (by simp)
                   ·rw [if_neg c64] at H
                    exact absurd H (by simp)
                  ·rw [if_neg c63] at H
                   have c63b0 : decide (x14_5 < (y138.length : Int)) = false := decide_eq_false c63
                   clear c63
                   by_cases c72 : (y152.length : Int) = (wrap64 ((l0.length : Int) + 1))
                   ·rw [if_pos c72] at H
                    have c72b0 : ((y152.length : Int) == (wrap64 ((l0.length : Int) + 1))) = true := beq_iff_eq.mpr c72
                    have c72b1 : ((y152.length : Int) != (wrap64 ((l0.length : Int) + 1))) = false := bne_eq_false_iff_eq.mpr c72
                    clear c72
                    obtain rfl := Option.some.inj H
                    obtain ⟨Ao73, co73, eo73⟩ := Kd.R_slice HO_13.out
                    subst eo73
                    have hcv74 := own_string (P := Try.prog) Try.underlying22 Try.underlying5 Try.underlying9 (Kd.own_of_R HO_11.out)
                    have hcv75 := fun m_ : Nat => own_string (P := Try.prog) Try.underlying22 Try.underlying5 Try.underlying9 (Kd.own_of_R (Kd.R_drewN HO_11.out m_))
                    have hcv76 := C_string_at (P := Try.prog) (A := A0) (c := c0) Try.underlying22 Try.underlying5 Try.underlying9 (Kd.C_below HR0.out HB.out)
                    have hcv77 := C_string_drew (P := Try.prog) (A := A0) (c := c0) Try.underlying22 Try.underlying5 Try.underlying9 (Kd.C_below HR0.out HB.out)
                    go_wp2
                    repeat (go_quiet (fail); try go_wp2)
                    go_ret
                    exact ⟨by first | rfl | (simp [errW_none, errW_some] <;> rfl) | (simp [*, errW_none, errW_some] <;> rfl), by repeat (first | (with_reducible first | exact HB.out | apply below_alloc | apply pw_below_drewN | apply below_drew1) | exact HB.out)⟩
                   ·rw [if_neg c72] at H
                    have c72b0 : ((y152.length : Int) == (wrap64 ((l0.length : Int) + 1))) = false := beq_eq_false_iff_ne.mpr c72
                    have c72b1 : ((y152.length : Int) != (wrap64 ((l0.length : Int) + 1))) = true := bne_iff_ne.mpr c72
                    obtain rfl := Option.some.inj H
                    obtain ⟨Ao78, co78, eo78⟩ := Kd.R_slice HO_13.out
                    subst eo78
                    go_wp2
                    repeat (go_quiet (fail); try go_wp2)
                    go_ret
                    exact ⟨by first | rfl | (simp [errW_none, errW_some] <;> rfl) | (simp [*, errW_none, errW_some] <;> rfl), by repeat (first | (with_reducible first | exact HB.out | apply below_alloc | apply pw_below_drewN | apply below_drew1) | exact HB.out)⟩
               ·rw [if_neg c60] at H
                exact absurd H (by simp)
        ·rw [if_neg c30] at H
         exact absurd H (by simp)
       ·rw [if_neg c28] at H
        exact absurd H (by simp)
      ·rw [if_neg c27] at H
       exact absurd H (by simp)

/-- THE ONE PURE STATEMENT of endonymlaw1_WireSums: yours. -/
def endonymlaw1_WireSums.Pure : Prop := ∀ (l0 : List Int) (l1 : List Int), l0.length ≤ maxLen → l0.length * 1 ≤ 140737488351232 → (∀ x ∈ l0, (Lit.int .u8 x).wf = true) → l1.length ≤ maxLen → l1.length * 8 ≤ 140737488351232 → (∀ x ∈ l1, (Lit.int .i64 x).wf = true) → ∃ k, endonymlaw1_WireSums.f k l0 l1 = some true
theorem endonymlaw1_WireSums.walk (P : endonymlaw1_WireSums.Pure) (a0 : Option Addr) (len0 cap0 : Nat) (z0 : List Int) (a1 : Option Addr) (len1 cap1 : Nat) (z1 : List Int) (w : World) (w0 : (a0 = none ∧ len0 = 0 ∧ cap0 = 0 ∧ z0 = []) ∨ ∃ x, a0 = some x ∧ len0 ≤ cap0 ∧ cap0 ≤ maxLen ∧ z0.length = cap0 ∧ (∀ i, i < z0.length → w.cell? (x.add i) = some (.int .u8 (z0.getD i 0))) ∧ ∀ n ∈ z0, (Lit.int .u8 n).wf = true) (y0 : len0 * 1 ≤ 140737488351232) (w1 : (a1 = none ∧ len1 = 0 ∧ cap1 = 0 ∧ z1 = []) ∨ ∃ x, a1 = some x ∧ len1 ≤ cap1 ∧ cap1 ≤ maxLen ∧ z1.length = cap1 ∧ (∀ i, i < z1.length → w.cell? (x.add i) = some (.int .i64 (z1.getD i 0))) ∧ ∀ n ∈ z1, (Lit.int .i64 n).wf = true) (y1 : len1 * 8 ≤ 140737488351232) :
  Calls Try.prog 7 #[.slice a0 len0 cap0, .slice a1 len1 cap1] w fun e w' => e = .returned (.bool true) ∧ Below w.heap.size w w' := by
 obtain ⟨l0, rfl, hr0, hm0, hw0, hc0⟩ := ReadsInt.ofRowC w0
 obtain ⟨l1, rfl, hr1, hm1, hw1, hc1⟩ := ReadsInt.ofRowC w1
 obtain ⟨k, h⟩ := P l0 l1 hm0 y0 hw0 hm1 y1 hw1
 refine (endonymlaw1_WireSums.calls k _ _ l0 _ _ l1 true w (Kd.C_of_reads (d := (0 : Int)) (h1 := fun _ => rfl) hr0) hc0 (Kd.C_of_reads (d := (0 : Int)) (h1 := fun _ => rfl) hr1) hc1 h).mono ?_
 rintro e w' ⟨rfl, hd⟩
 exact ⟨rfl, hd⟩


end Go.Proofs.Ytgjmollnjlkjhaa.Q
