-- Written by wip/tools/pr.py of this session over the kit's print (widened); the words are the kit's print's own. Not trusted: Lean checks it.
import Derived.Test.YtiaodapgankjnaaQx0
import Derived.Test.YtiaodapgankjnaaQx2
import Derived.Test.YtiaodapgankjnaaQx5
import Derived.Test.YtiaodapgankjnaaQx7
import Derived.Test.YtiaodapgankjnaaQx8
import Derived.Test.YtiaodapgankjnaaQx9
namespace Go.Proofs.Ytiaodapgankjnaa.Q
open Go.RowKit Go.Proofs.YtiaodapgankjnaaW.PrintWords Go.Proofs.YtiaodapgankjnaaW.PrintLast Go.Proofs.YtiaodapgankjnaaW.PrintMore
attribute [local go_sem] max2_int min2_int max_two min_two max_three min_three max_four min_four   -- for this text's walks alone
set_option linter.unusedVariables false
set_option linter.unusedSimpArgs false

/-! ### endonymlaw4_TrieSame: function 4 -/
mutual
def endonymlaw4_TrieSame.j0 : Nat → List (S35) → Int → List (S35) → Int → List (S57) → Int → List (S57) → Int → Bool → Option (Bool)
 | 0, _, _, _, _, _, _, _, _, _ => none
 | k + 1, x0, x1, x2, x3, x9, x11, x12, x14, x57 => if x57 = true then (some false) else (if x11 = 0 then (endonymlaw4_TrieSame.j1 k x0 x1 x2 x3 x9 x12 (x14 != 0)) else (endonymlaw4_TrieSame.j1 k x0 x1 x2 x3 x9 x12 true))
def endonymlaw4_TrieSame.j1 : Nat → List (S35) → Int → List (S35) → Int → List (S57) → List (S57) → Bool → Option (Bool)
 | 0, _, _, _, _, _, _, _ => none
 | k + 1, x0, x1, x2, x3, x9, x12, x63 => if x63 = true then (some true) else (if x1 = x3 then ((endonymref4_Ranges.f k x0 x1).bind fun t272 => ((endonymref4_Ranges.f k x2 x3).bind fun t275 => ((endonymref4_Same.f k t272 t275).bind fun t278 => (endonymlaw4_TrieSame.j2 k x9 x12 t278)))) else (endonymlaw4_TrieSame.j2 k x9 x12 false))
def endonymlaw4_TrieSame.j2 : Nat → List (S57) → List (S57) → Bool → Option (Bool)
 | 0, _, _, _ => none
 | k + 1, x9, x12, x15 => (trie_Trie_Same.f k x9 x12).bind fun t279 => (if (t279 == x15) = true then ((trie_Trie_Same.f k x12 x9).bind fun t280 => (if (t280 == x15) = true then ((trie_Trie_Same.f k x9 x9).bind fun t281 => (if t281 = true then ((trie_Trie_Same.f k x9 ([] : List (S57))).bind fun t282 => (some (!t282))) else (some false))) else (some false))) else (some false))
end
def endonymlaw4_TrieSame.f (k : Nat) (l0 : List (S35)) (a1 : Int) (l2 : List (S35)) (a3 : Int) : Option (Bool) := (endonymlaw4_few.f l0).bind fun bt249 => ((endonymlaw4_few.f l2).bind fun bt255 => ((trie_Build.f k bt249.2 a1).bind fun bt261 => ((trie_Build.f k bt255.2 a3).bind fun bt266 => ((endonymlaw4_told.f k).bind fun t271 => (if t271 = true then (if bt261.2.2 = 0 then (if (bt261.1.isEmpty) = true then (endonymlaw4_TrieSame.j0 k bt249.2 a1 bt255.2 a3 bt261.1 bt261.2.2 bt266.1 bt266.2.2 true) else (if bt266.2.2 = 0 then (endonymlaw4_TrieSame.j0 k bt249.2 a1 bt255.2 a3 bt261.1 bt261.2.2 bt266.1 bt266.2.2 (bt266.1.isEmpty)) else (endonymlaw4_TrieSame.j0 k bt249.2 a1 bt255.2 a3 bt261.1 bt261.2.2 bt266.1 bt266.2.2 false))) else (if bt266.2.2 = 0 then (endonymlaw4_TrieSame.j0 k bt249.2 a1 bt255.2 a3 bt261.1 bt261.2.2 bt266.1 bt266.2.2 (bt266.1.isEmpty)) else (endonymlaw4_TrieSame.j0 k bt249.2 a1 bt255.2 a3 bt261.1 bt261.2.2 bt266.1 bt266.2.2 false))) else (endonymlaw4_TrieSame.j0 k bt249.2 a1 bt255.2 a3 bt261.1 bt261.2.2 bt266.1 bt266.2.2 true))))))
theorem endonymlaw4_TrieSame.mono_l : ∀ k, (∀ y0 y1 y2 y3 y4 y5 y6 y7 y8, LeO (endonymlaw4_TrieSame.j0 k y0 y1 y2 y3 y4 y5 y6 y7 y8) (endonymlaw4_TrieSame.j0 (k + 1) y0 y1 y2 y3 y4 y5 y6 y7 y8)) ∧ (∀ y0 y1 y2 y3 y4 y5 y6, LeO (endonymlaw4_TrieSame.j1 k y0 y1 y2 y3 y4 y5 y6) (endonymlaw4_TrieSame.j1 (k + 1) y0 y1 y2 y3 y4 y5 y6)) ∧ (∀ y0 y1 y2, LeO (endonymlaw4_TrieSame.j2 k y0 y1 y2) (endonymlaw4_TrieSame.j2 (k + 1) y0 y1 y2))
 | 0 => ⟨fun _ _ _ _ _ _ _ _ _ r h => by simp [endonymlaw4_TrieSame.j0] at h, fun _ _ _ _ _ _ _ r h => by simp [endonymlaw4_TrieSame.j1] at h, fun _ _ _ r h => by simp [endonymlaw4_TrieSame.j2] at h⟩
 | k + 1 => by
  obtain ⟨ih0, ih1, ih2⟩ := endonymlaw4_TrieSame.mono_l k
  refine ⟨?_, ?_, ?_⟩
  ·intro y0 y1 y2 y3 y4 y5 y6 y7 y8
   unfold endonymlaw4_TrieSame.j0
   repeat' first
   | (with_reducible exact ih0 _ _ _ _ _ _ _ _ _)
   | (with_reducible exact ih1 _ _ _ _ _ _ _)
   | (with_reducible exact ih2 _ _ _)
   | (with_reducible exact endonymlaw4_told.mono _)
   | (with_reducible exact endonymref4_Ranges.mono _ _ _)
   | (with_reducible exact endonymref4_Same.mono _ _ _)
   | (with_reducible exact trie_Build.mono _ _ _)
   | (with_reducible exact trie_Trie_Same.mono _ _ _)
   | (with_reducible exact LeO.refl _)
   | (with_reducible exact LeO.none _)
   | (with_reducible refine LeO.ite ?_ ?_)
   | (with_reducible refine LeO.bind ?_ (fun _ => ?_))
   | exact ih0 _ _ _ _ _ _ _ _ _
   | exact ih1 _ _ _ _ _ _ _
   | exact ih2 _ _ _
   | exact endonymlaw4_told.mono _
   | exact endonymref4_Ranges.mono _ _ _
   | exact endonymref4_Same.mono _ _ _
   | exact trie_Build.mono _ _ _
   | exact trie_Trie_Same.mono _ _ _
   | exact LeO.none _
   | refine LeO.ite ?_ ?_
   | refine LeO.bind ?_ (fun _ => ?_)
  ·intro y0 y1 y2 y3 y4 y5 y6
   unfold endonymlaw4_TrieSame.j1
   repeat' first
   | (with_reducible exact ih0 _ _ _ _ _ _ _ _ _)
   | (with_reducible exact ih1 _ _ _ _ _ _ _)
   | (with_reducible exact ih2 _ _ _)
   | (with_reducible exact endonymlaw4_told.mono _)
   | (with_reducible exact endonymref4_Ranges.mono _ _ _)
   | (with_reducible exact endonymref4_Same.mono _ _ _)
   | (with_reducible exact trie_Build.mono _ _ _)
   | (with_reducible exact trie_Trie_Same.mono _ _ _)
   | (with_reducible exact LeO.refl _)
   | (with_reducible exact LeO.none _)
   | (with_reducible refine LeO.ite ?_ ?_)
   | (with_reducible refine LeO.bind ?_ (fun _ => ?_))
   | exact ih0 _ _ _ _ _ _ _ _ _
   | exact ih1 _ _ _ _ _ _ _
   | exact ih2 _ _ _
   | exact endonymlaw4_told.mono _
   | exact endonymref4_Ranges.mono _ _ _
   | exact endonymref4_Same.mono _ _ _
   | exact trie_Build.mono _ _ _
   | exact trie_Trie_Same.mono _ _ _
   | exact LeO.none _
   | refine LeO.ite ?_ ?_
   | refine LeO.bind ?_ (fun _ => ?_)
  ·intro y0 y1 y2
   unfold endonymlaw4_TrieSame.j2
   repeat' first
   | (with_reducible exact ih0 _ _ _ _ _ _ _ _ _)
   | (with_reducible exact ih1 _ _ _ _ _ _ _)
   | (with_reducible exact ih2 _ _ _)
   | (with_reducible exact endonymlaw4_told.mono _)
   | (with_reducible exact endonymref4_Ranges.mono _ _ _)
   | (with_reducible exact endonymref4_Same.mono _ _ _)
   | (with_reducible exact trie_Build.mono _ _ _)
   | (with_reducible exact trie_Trie_Same.mono _ _ _)
   | (with_reducible exact LeO.refl _)
   | (with_reducible exact LeO.none _)
   | (with_reducible refine LeO.ite ?_ ?_)
   | (with_reducible refine LeO.bind ?_ (fun _ => ?_))
   | exact ih0 _ _ _ _ _ _ _ _ _
   | exact ih1 _ _ _ _ _ _ _
   | exact ih2 _ _ _
   | exact endonymlaw4_told.mono _
   | exact endonymref4_Ranges.mono _ _ _
   | exact endonymref4_Same.mono _ _ _
   | exact trie_Build.mono _ _ _
   | exact trie_Trie_Same.mono _ _ _
   | exact LeO.none _
   | refine LeO.ite ?_ ?_
   | refine LeO.bind ?_ (fun _ => ?_)
theorem endonymlaw4_TrieSame.mono : ∀ a0 a1 a2 a3 k, LeO (endonymlaw4_TrieSame.f k a0 a1 a2 a3) (endonymlaw4_TrieSame.f (k + 1) a0 a1 a2 a3) := by
 intro a0 a1 a2 a3 k
 obtain ⟨ih0, ih1, ih2⟩ := endonymlaw4_TrieSame.mono_l k
 unfold endonymlaw4_TrieSame.f
 repeat' first
   | (with_reducible exact ih0 _ _ _ _ _ _ _ _ _)
   | (with_reducible exact ih1 _ _ _ _ _ _ _)
   | (with_reducible exact ih2 _ _ _)
   | (with_reducible exact endonymlaw4_told.mono _)
   | (with_reducible exact endonymref4_Ranges.mono _ _ _)
   | (with_reducible exact endonymref4_Same.mono _ _ _)
   | (with_reducible exact trie_Build.mono _ _ _)
   | (with_reducible exact trie_Trie_Same.mono _ _ _)
   | (with_reducible exact LeO.refl _)
   | (with_reducible exact LeO.none _)
   | (with_reducible refine LeO.ite ?_ ?_)
   | (with_reducible refine LeO.bind ?_ (fun _ => ?_))
   | exact ih0 _ _ _ _ _ _ _ _ _
   | exact ih1 _ _ _ _ _ _ _
   | exact ih2 _ _ _
   | exact endonymlaw4_told.mono _
   | exact endonymref4_Ranges.mono _ _ _
   | exact endonymref4_Same.mono _ _ _
   | exact trie_Build.mono _ _ _
   | exact trie_Trie_Same.mono _ _ _
   | exact LeO.none _
   | refine LeO.ite ?_ ?_
   | refine LeO.bind ?_ (fun _ => ?_)
set_option maxHeartbeats 8000000 in
set_option maxRecDepth 100000 in
theorem endonymlaw4_TrieSame.calls (k : Nat) (A0 : Option Addr) (c0 : Nat) (l0 : List (S35)) (a1 : Int) (A2 : Option Addr) (c2 : Nat) (l2 : List (S35)) (a3 : Int) (r : Bool) (w : World) (hr0 : Kd.C k35 w A0 l0.length l0) (hc0 : l0.length ≤ c0) (hr2 : Kd.C k35 w A2 l2.length l2) (hc2 : l2.length ≤ c2) (h : endonymlaw4_TrieSame.f k l0 a1 l2 a3 = some r) :
  Calls Try.prog 4 #[.slice A0 l0.length c0, .int .i64 a1, .slice A2 l2.length c2, .int .i64 a3] w fun e w' => e = .returned (.bool r) ∧ Below w.heap.size w w' := by
 have HR0 := Aside0.mk hr0
 have HC0 := Aside0.mk hc0
 clear hr0 hc0
 have HR2 := Aside0.mk hr2
 have HC2 := Aside0.mk hc2
 clear hr2 hc2
 have HB := Aside0.mk (Below.refl w.heap.size w)
 have H : ((endonymlaw4_few.f l0).bind fun bt249 => ((endonymlaw4_few.f l2).bind fun bt255 => ((trie_Build.f k bt249.2 a1).bind fun bt261 => ((trie_Build.f k bt255.2 a3).bind fun bt266 => ((endonymlaw4_told.f k).bind fun t271 => (if t271 = true then (if bt261.2.2 = 0 then (if (bt261.1.isEmpty) = true then (endonymlaw4_TrieSame.j0 k bt249.2 a1 bt255.2 a3 bt261.1 bt261.2.2 bt266.1 bt266.2.2 true) else (if bt266.2.2 = 0 then (endonymlaw4_TrieSame.j0 k bt249.2 a1 bt255.2 a3 bt261.1 bt261.2.2 bt266.1 bt266.2.2 (bt266.1.isEmpty)) else (endonymlaw4_TrieSame.j0 k bt249.2 a1 bt255.2 a3 bt261.1 bt261.2.2 bt266.1 bt266.2.2 false))) else (if bt266.2.2 = 0 then (endonymlaw4_TrieSame.j0 k bt249.2 a1 bt255.2 a3 bt261.1 bt261.2.2 bt266.1 bt266.2.2 (bt266.1.isEmpty)) else (endonymlaw4_TrieSame.j0 k bt249.2 a1 bt255.2 a3 bt261.1 bt261.2.2 bt266.1 bt266.2.2 false))) else (endonymlaw4_TrieSame.j0 k bt249.2 a1 bt255.2 a3 bt261.1 bt261.2.2 bt266.1 bt266.2.2 true))))))) = some r := h
 clear h
 replace H := Option.bind_eq_some_iff.mp H
 obtain ⟨⟨t249, t250⟩, A50, H⟩ := H
 replace H : ((endonymlaw4_few.f l2).bind fun bt255 => ((trie_Build.f k t250 a1).bind fun bt261 => ((trie_Build.f k bt255.2 a3).bind fun bt266 => ((endonymlaw4_told.f k).bind fun t271 => (if t271 = true then (if bt261.2.2 = 0 then (if (bt261.1.isEmpty) = true then (endonymlaw4_TrieSame.j0 k t250 a1 bt255.2 a3 bt261.1 bt261.2.2 bt266.1 bt266.2.2 true) else (if bt266.2.2 = 0 then (endonymlaw4_TrieSame.j0 k t250 a1 bt255.2 a3 bt261.1 bt261.2.2 bt266.1 bt266.2.2 (bt266.1.isEmpty)) else (endonymlaw4_TrieSame.j0 k t250 a1 bt255.2 a3 bt261.1 bt261.2.2 bt266.1 bt266.2.2 false))) else (if bt266.2.2 = 0 then (endonymlaw4_TrieSame.j0 k t250 a1 bt255.2 a3 bt261.1 bt261.2.2 bt266.1 bt266.2.2 (bt266.1.isEmpty)) else (endonymlaw4_TrieSame.j0 k t250 a1 bt255.2 a3 bt261.1 bt261.2.2 bt266.1 bt266.2.2 false))) else (endonymlaw4_TrieSame.j0 k t250 a1 bt255.2 a3 bt261.1 bt261.2.2 bt266.1 bt266.2.2 true)))))) = some r := H
 have A5 := Aside0.mk A50
 clear A50
 replace H := Option.bind_eq_some_iff.mp H
 obtain ⟨⟨t255, t256⟩, A60, H⟩ := H
 replace H : ((trie_Build.f k t250 a1).bind fun bt261 => ((trie_Build.f k t256 a3).bind fun bt266 => ((endonymlaw4_told.f k).bind fun t271 => (if t271 = true then (if bt261.2.2 = 0 then (if (bt261.1.isEmpty) = true then (endonymlaw4_TrieSame.j0 k t250 a1 t256 a3 bt261.1 bt261.2.2 bt266.1 bt266.2.2 true) else (if bt266.2.2 = 0 then (endonymlaw4_TrieSame.j0 k t250 a1 t256 a3 bt261.1 bt261.2.2 bt266.1 bt266.2.2 (bt266.1.isEmpty)) else (endonymlaw4_TrieSame.j0 k t250 a1 t256 a3 bt261.1 bt261.2.2 bt266.1 bt266.2.2 false))) else (if bt266.2.2 = 0 then (endonymlaw4_TrieSame.j0 k t250 a1 t256 a3 bt261.1 bt261.2.2 bt266.1 bt266.2.2 (bt266.1.isEmpty)) else (endonymlaw4_TrieSame.j0 k t250 a1 t256 a3 bt261.1 bt261.2.2 bt266.1 bt266.2.2 false))) else (endonymlaw4_TrieSame.j0 k t250 a1 t256 a3 bt261.1 bt261.2.2 bt266.1 bt266.2.2 true))))) = some r := H
 have A6 := Aside0.mk A60
 clear A60
 replace H := Option.bind_eq_some_iff.mp H
 obtain ⟨⟨t261, t262, t263⟩, A70, H⟩ := H
 replace H : ((trie_Build.f k t256 a3).bind fun bt266 => ((endonymlaw4_told.f k).bind fun t271 => (if t271 = true then (if t263 = 0 then (if (t261.isEmpty) = true then (endonymlaw4_TrieSame.j0 k t250 a1 t256 a3 t261 t263 bt266.1 bt266.2.2 true) else (if bt266.2.2 = 0 then (endonymlaw4_TrieSame.j0 k t250 a1 t256 a3 t261 t263 bt266.1 bt266.2.2 (bt266.1.isEmpty)) else (endonymlaw4_TrieSame.j0 k t250 a1 t256 a3 t261 t263 bt266.1 bt266.2.2 false))) else (if bt266.2.2 = 0 then (endonymlaw4_TrieSame.j0 k t250 a1 t256 a3 t261 t263 bt266.1 bt266.2.2 (bt266.1.isEmpty)) else (endonymlaw4_TrieSame.j0 k t250 a1 t256 a3 t261 t263 bt266.1 bt266.2.2 false))) else (endonymlaw4_TrieSame.j0 k t250 a1 t256 a3 t261 t263 bt266.1 bt266.2.2 true)))) = some r := H
 have A7 := Aside0.mk A70
 clear A70
 replace H := Option.bind_eq_some_iff.mp H
 obtain ⟨⟨t266, t267, t268⟩, A80, H⟩ := H
 replace H : ((endonymlaw4_told.f k).bind fun t271 => (if t271 = true then (if t263 = 0 then (if (t261.isEmpty) = true then (endonymlaw4_TrieSame.j0 k t250 a1 t256 a3 t261 t263 t266 t268 true) else (if t268 = 0 then (endonymlaw4_TrieSame.j0 k t250 a1 t256 a3 t261 t263 t266 t268 (t266.isEmpty)) else (endonymlaw4_TrieSame.j0 k t250 a1 t256 a3 t261 t263 t266 t268 false))) else (if t268 = 0 then (endonymlaw4_TrieSame.j0 k t250 a1 t256 a3 t261 t263 t266 t268 (t266.isEmpty)) else (endonymlaw4_TrieSame.j0 k t250 a1 t256 a3 t261 t263 t266 t268 false))) else (endonymlaw4_TrieSame.j0 k t250 a1 t256 a3 t261 t263 t266 t268 true))) = some r := H
 have A8 := Aside0.mk A80
 clear A80
 have HC9 := Aside0.mk H
 clear H
 go_enter Try.func4, Try.ntmps4
 go_upto_region 5 with (first | ((with_reducible refine gate_callee (f := 8) rfl ?_); refine goesL_ (some 18) rfl rfl Try.func8 (by kernel_rfl) rfl #[.slice A0 l0.length c0] rfl (by (try simp only [List.map_toArray, List.map_cons, List.map_nil]); first | done | rfl | (simp only [List.length_drop, List.length_take]; rfl)) ?_; (with_reducible refine (endonymlaw4_few.calls _ _ l0 t249 t250 _ ?side1 ?side2 A5.out).mono ?_); (case side1 => repeat (first | exact HR0.out | (with_reducible refine Kd.C_alloc ?_ _) | (with_reducible refine Kd.C_drewN ?_ _) | (with_reducible refine Kd.C_drew ?_))); (case side2 => exact HC0.out); rintro e w10 ⟨v251, v253, rfl, ho0, ho1, hb⟩; refine ⟨_, rfl, ?_⟩; have n0_ := Aside0.mk (Kd.R_lower ho0 (below_size (by repeat (first | (with_reducible first | exact HB.out | apply below_alloc | apply pw_below_drewN | apply below_drew1) | exact HB.out)))); have n1_ := Aside0.mk (Kd.R_lower ho1 (below_size (by repeat (first | (with_reducible first | exact HB.out | apply below_alloc | apply pw_below_drewN | apply below_drew1) | exact HB.out)))); have n2_ := Aside0.mk (below_step (by repeat (first | (with_reducible first | exact HB.out | apply below_alloc | apply pw_below_drewN | apply below_drew1) | exact HB.out)) hb); clear HB; have HO252 := n0_; have HO254 := n1_; have HB := n2_; clear n0_ n1_ n2_; (try clear hb); (try clear hb2); (try clear hk); (try clear hi); (try clear ho0); (try clear ho1)) | ((with_reducible refine gate_callee (f := 8) rfl ?_); refine goesL_ (some 23) rfl rfl Try.func8 (by kernel_rfl) rfl #[.slice A2 l2.length c2] rfl (by (try simp only [List.map_toArray, List.map_cons, List.map_nil]); first | done | rfl | (simp only [List.length_drop, List.length_take]; rfl)) ?_; (with_reducible refine (endonymlaw4_few.calls _ _ l2 t255 t256 _ ?side1 ?side2 A6.out).mono ?_); (case side1 => repeat (first | exact (Kd.C_below HR2.out HB.out) | (with_reducible refine Kd.C_alloc ?_ _) | (with_reducible refine Kd.C_drewN ?_ _) | (with_reducible refine Kd.C_drew ?_))); (case side2 => exact HC2.out); rintro e w11 ⟨v257, v259, rfl, ho0, ho1, hb⟩; refine ⟨_, rfl, ?_⟩; have n0_ := Aside0.mk (Kd.R_mono (Kd.R_told (Kd.R_told (Kd.R_old (by (with_reducible repeat (first | apply Kd.R_alloc | apply Kd.R_drewN | apply Kd.R_drew)); first | exact HO252.out | exact Kd.R_mono HO252.out (fun _ hk => (by first | exact hk | exact fun e_ => hk (e_.trans (own_len _ _ _ _ _))))) hb) (Kd.R_base ho0)) (Kd.R_base ho1)) (fun _ h_ => h_.1)); have n1_ := Aside0.mk (Kd.R_mono (Kd.R_told (Kd.R_told (Kd.R_old (by (with_reducible repeat (first | apply Kd.R_alloc | apply Kd.R_drewN | apply Kd.R_drew)); first | exact HO254.out | exact Kd.R_mono HO254.out (fun _ hk => (by first | exact hk | exact fun e_ => hk (e_.trans (own_len _ _ _ _ _))))) hb) (Kd.R_base ho0)) (Kd.R_base ho1)) (fun _ h_ => h_.1)); have n2_ := Aside0.mk (Kd.R_lower (Kd.R_new' (Kd.R_new' ho0 (Kd.R_lt (by (with_reducible repeat (first | apply Kd.R_alloc | apply Kd.R_drewN | apply Kd.R_drew)); first | exact HO252.out | exact Kd.R_mono HO252.out (fun _ hk => (by first | exact hk | exact fun e_ => hk (e_.trans (own_len _ _ _ _ _))))))) (Kd.R_lt (by (with_reducible repeat (first | apply Kd.R_alloc | apply Kd.R_drewN | apply Kd.R_drew)); first | exact HO254.out | exact Kd.R_mono HO254.out (fun _ hk => (by first | exact hk | exact fun e_ => hk (e_.trans (own_len _ _ _ _ _))))))) (below_size (by repeat (first | (with_reducible first | exact HB.out | apply below_alloc | apply pw_below_drewN | apply below_drew1) | exact HB.out)))); have n3_ := Aside0.mk (Kd.R_lower (Kd.R_new' (Kd.R_new' ho1 (Kd.R_lt (by (with_reducible repeat (first | apply Kd.R_alloc | apply Kd.R_drewN | apply Kd.R_drew)); first | exact HO252.out | exact Kd.R_mono HO252.out (fun _ hk => (by first | exact hk | exact fun e_ => hk (e_.trans (own_len _ _ _ _ _))))))) (Kd.R_lt (by (with_reducible repeat (first | apply Kd.R_alloc | apply Kd.R_drewN | apply Kd.R_drew)); first | exact HO254.out | exact Kd.R_mono HO254.out (fun _ hk => (by first | exact hk | exact fun e_ => hk (e_.trans (own_len _ _ _ _ _))))))) (below_size (by repeat (first | (with_reducible first | exact HB.out | apply below_alloc | apply pw_below_drewN | apply below_drew1) | exact HB.out)))); have n4_ := Aside0.mk (below_step (by repeat (first | (with_reducible first | exact HB.out | apply below_alloc | apply pw_below_drewN | apply below_drew1) | exact HB.out)) hb); clear HO252; clear HO254; clear HB; have HO252 := n0_; have HO254 := n1_; have HO258 := n2_; have HO260 := n3_; have HB := n4_; clear n0_ n1_ n2_ n3_ n4_; (try clear hb); (try clear hb2); (try clear hk); (try clear hi); (try clear ho0); (try clear ho1); obtain ⟨Ao12, co12, eo12⟩ := Kd.R_slice HO254.out; subst eo12) | ((with_reducible refine gate_callee (f := 9) rfl ?_); refine goesL_ (some 29) rfl rfl Try.func9 (by kernel_rfl) rfl #[.slice Ao12 t250.length co12, .int .i64 a1] rfl (by (try simp only [List.map_toArray, List.map_cons, List.map_nil]); first | done | rfl | (simp only [List.length_drop, List.length_take]; rfl)) ?_; (with_reducible refine (trie_Build.calls k _ _ t250 a1 t261 t262 t263 _ ?side1 ?side2 A7.out).mono ?_); (case side1 => repeat (first | exact (Kd.R_reads' HO254.out).2.2 | (with_reducible refine Kd.C_alloc ?_ _) | (with_reducible refine Kd.C_drewN ?_ _) | (with_reducible refine Kd.C_drew ?_))); (case side2 => exact (Kd.R_reads' HO254.out).2.1); rintro e w13 ⟨v264, rfl, ho0, hb⟩; refine ⟨_, rfl, ?_⟩; have n0_ := Aside0.mk (Kd.R_below (by (with_reducible repeat (first | apply Kd.R_alloc | apply Kd.R_drewN | apply Kd.R_drew)); first | exact HO252.out | exact Kd.R_mono HO252.out (fun _ hk => ⟨⟨(by first | exact hk.1.1 | exact fun e_ => hk.1.1 (e_.trans (own_len _ _ _ _ _))), (by first | exact hk.1.2 | exact fun e_ => hk.1.2 (e_.trans (own_len _ _ _ _ _)))⟩, (by first | exact hk.2 | exact fun e_ => hk.2 (e_.trans (own_len _ _ _ _ _)))⟩)) hb); have n1_ := Aside0.mk (Kd.R_below (by (with_reducible repeat (first | apply Kd.R_alloc | apply Kd.R_drewN | apply Kd.R_drew)); first | exact HO254.out | exact Kd.R_mono HO254.out (fun _ hk => ⟨⟨(by first | exact hk.1.1 | exact fun e_ => hk.1.1 (e_.trans (own_len _ _ _ _ _))), (by first | exact hk.1.2 | exact fun e_ => hk.1.2 (e_.trans (own_len _ _ _ _ _)))⟩, (by first | exact hk.2 | exact fun e_ => hk.2 (e_.trans (own_len _ _ _ _ _)))⟩)) hb); have n2_ := Aside0.mk (Kd.R_below (by (with_reducible repeat (first | apply Kd.R_alloc | apply Kd.R_drewN | apply Kd.R_drew)); first | exact HO258.out | exact Kd.R_mono HO258.out (fun _ hk => ⟨⟨(by first | exact hk.1.1 | exact fun e_ => hk.1.1 (e_.trans (own_len _ _ _ _ _))), (by first | exact hk.1.2 | exact fun e_ => hk.1.2 (e_.trans (own_len _ _ _ _ _)))⟩, (by first | exact hk.2 | exact fun e_ => hk.2 (e_.trans (own_len _ _ _ _ _)))⟩)) hb); have n3_ := Aside0.mk (Kd.R_below (by (with_reducible repeat (first | apply Kd.R_alloc | apply Kd.R_drewN | apply Kd.R_drew)); first | exact HO260.out | exact Kd.R_mono HO260.out (fun _ hk => ⟨⟨(by first | exact hk.1.1 | exact fun e_ => hk.1.1 (e_.trans (own_len _ _ _ _ _))), (by first | exact hk.1.2 | exact fun e_ => hk.1.2 (e_.trans (own_len _ _ _ _ _)))⟩, (by first | exact hk.2 | exact fun e_ => hk.2 (e_.trans (own_len _ _ _ _ _)))⟩)) hb); have n4_ := Aside0.mk (Kd.P_lower ho0 (below_size (by repeat (first | (with_reducible first | exact HB.out | apply below_alloc | apply pw_below_drewN | apply below_drew1) | exact HB.out)))); have n5_ := Aside0.mk (below_step (by repeat (first | (with_reducible first | exact HB.out | apply below_alloc | apply pw_below_drewN | apply below_drew1) | exact HB.out)) hb); clear HO252; clear HO254; clear HO258; clear HO260; clear HB; have HO252 := n0_; have HO254 := n1_; have HO258 := n2_; have HO260 := n3_; have HO265 := n4_; have HB := n5_; clear n0_ n1_ n2_ n3_ n4_ n5_; (try clear hb); (try clear hb2); (try clear hk); (try clear hi); (try clear ho0); obtain ⟨Ao14, co14, eo14⟩ := Kd.R_slice HO260.out; subst eo14) | ((with_reducible refine gate_callee (f := 9) rfl ?_); refine goesL_ (some 36) rfl rfl Try.func9 (by kernel_rfl) rfl #[.slice Ao14 t256.length co14, .int .i64 a3] rfl (by (try simp only [List.map_toArray, List.map_cons, List.map_nil]); first | done | rfl | (simp only [List.length_drop, List.length_take]; rfl)) ?_; (with_reducible refine (trie_Build.calls k _ _ t256 a3 t266 t267 t268 _ ?side1 ?side2 A8.out).mono ?_); (case side1 => repeat (first | exact (Kd.R_reads' HO260.out).2.2 | (with_reducible refine Kd.C_alloc ?_ _) | (with_reducible refine Kd.C_drewN ?_ _) | (with_reducible refine Kd.C_drew ?_))); (case side2 => exact (Kd.R_reads' HO260.out).2.1); rintro e w15 ⟨v269, rfl, ho0, hb⟩; refine ⟨_, rfl, ?_⟩; have n0_ := Aside0.mk (Kd.R_below (by (with_reducible repeat (first | apply Kd.R_alloc | apply Kd.R_drewN | apply Kd.R_drew)); first | exact HO252.out | exact Kd.R_mono HO252.out (fun _ hk => ⟨⟨(by first | exact hk.1.1 | exact fun e_ => hk.1.1 (e_.trans (own_len _ _ _ _ _))), (by first | exact hk.1.2 | exact fun e_ => hk.1.2 (e_.trans (own_len _ _ _ _ _)))⟩, (by first | exact hk.2 | exact fun e_ => hk.2 (e_.trans (own_len _ _ _ _ _)))⟩)) hb); have n1_ := Aside0.mk (Kd.R_below (by (with_reducible repeat (first | apply Kd.R_alloc | apply Kd.R_drewN | apply Kd.R_drew)); first | exact HO254.out | exact Kd.R_mono HO254.out (fun _ hk => ⟨⟨(by first | exact hk.1.1 | exact fun e_ => hk.1.1 (e_.trans (own_len _ _ _ _ _))), (by first | exact hk.1.2 | exact fun e_ => hk.1.2 (e_.trans (own_len _ _ _ _ _)))⟩, (by first | exact hk.2 | exact fun e_ => hk.2 (e_.trans (own_len _ _ _ _ _)))⟩)) hb); have n2_ := Aside0.mk (Kd.R_below (by (with_reducible repeat (first | apply Kd.R_alloc | apply Kd.R_drewN | apply Kd.R_drew)); first | exact HO258.out | exact Kd.R_mono HO258.out (fun _ hk => ⟨⟨(by first | exact hk.1.1 | exact fun e_ => hk.1.1 (e_.trans (own_len _ _ _ _ _))), (by first | exact hk.1.2 | exact fun e_ => hk.1.2 (e_.trans (own_len _ _ _ _ _)))⟩, (by first | exact hk.2 | exact fun e_ => hk.2 (e_.trans (own_len _ _ _ _ _)))⟩)) hb); have n3_ := Aside0.mk (Kd.R_below (by (with_reducible repeat (first | apply Kd.R_alloc | apply Kd.R_drewN | apply Kd.R_drew)); first | exact HO260.out | exact Kd.R_mono HO260.out (fun _ hk => ⟨⟨(by first | exact hk.1.1 | exact fun e_ => hk.1.1 (e_.trans (own_len _ _ _ _ _))), (by first | exact hk.1.2 | exact fun e_ => hk.1.2 (e_.trans (own_len _ _ _ _ _)))⟩, (by first | exact hk.2 | exact fun e_ => hk.2 (e_.trans (own_len _ _ _ _ _)))⟩)) hb); have n4_ := Aside0.mk (Kd.P_elder' (by (with_reducible repeat (first | apply Kd.P_alloc | apply Kd.P_drewN | apply Kd.P_drew)); exact HO265.out) (Kd.P_base ho0) hb); have n5_ := Aside0.mk (Kd.P_lower (Kd.P_new' ho0 (Kd.P_lt (by (with_reducible repeat (first | apply Kd.P_alloc | apply Kd.P_drewN | apply Kd.P_drew)); exact HO265.out))) (below_size (by repeat (first | (with_reducible first | exact HB.out | apply below_alloc | apply pw_below_drewN | apply below_drew1) | exact HB.out)))); have n6_ := Aside0.mk (below_step (by repeat (first | (with_reducible first | exact HB.out | apply below_alloc | apply pw_below_drewN | apply below_drew1) | exact HB.out)) hb); clear HO252; clear HO254; clear HO258; clear HO260; clear HO265; clear HB; have HO252 := n0_; have HO254 := n1_; have HO258 := n2_; have HO260 := n3_; have HO265 := n4_; have HO270 := n5_; have HB := n6_; clear n0_ n1_ n2_ n3_ n4_ n5_ n6_; (try clear hb); (try clear hb2); (try clear hk); (try clear hi); (try clear ho0)))
 (try simp only [Act.put, List.setIfInBounds_toArray, List.set_cons_zero, List.set_cons_succ])
 go_cut [57] (fun v57 wc => ∃ (kq : Nat) (x57_8 : Bool), v57 = .bool x57_8 ∧ Aside0 (endonymlaw4_TrieSame.j0 kq t250 a1 t256 a3 t261 t263 t266 t268 x57_8 = some r) ∧ Aside0 (kq ≤ k) ∧ Aside0 (Kd.R k35 35 wc w.heap.size (fun k_ => some k_ ≠ ((.slice Ao14 t256.length co14) : Value).ownBlock) (.slice Ao12 t250.length co12) t250) ∧ Aside0 (Kd.R k35 35 wc w.heap.size (fun k_ => some k_ ≠ ((.slice Ao12 t250.length co12) : Value).ownBlock) (.slice Ao14 t256.length co14) t256) ∧ Aside0 (Kd.P k57 57 wc w.heap.size (fun k_ => some k_ ≠ (v269 : Value).ownBlock) v264 t261) ∧ Aside0 (Kd.P k57 57 wc w.heap.size (fun k_ => some k_ ≠ (v264 : Value).ownBlock) v269 t266) ∧ Aside0 (Below w.heap.size w wc))
 case first =>
  have H := HC9.out
  clear HC9
  replace H := Option.bind_eq_some_iff.mp H
  obtain ⟨t271, A160, H⟩ := H
  replace H : (if t271 = true then (if t263 = 0 then (if (t261.isEmpty) = true then (endonymlaw4_TrieSame.j0 k t250 a1 t256 a3 t261 t263 t266 t268 true) else (if t268 = 0 then (endonymlaw4_TrieSame.j0 k t250 a1 t256 a3 t261 t263 t266 t268 (t266.isEmpty)) else (endonymlaw4_TrieSame.j0 k t250 a1 t256 a3 t261 t263 t266 t268 false))) else (if t268 = 0 then (endonymlaw4_TrieSame.j0 k t250 a1 t256 a3 t261 t263 t266 t268 (t266.isEmpty)) else (endonymlaw4_TrieSame.j0 k t250 a1 t256 a3 t261 t263 t266 t268 false))) else (endonymlaw4_TrieSame.j0 k t250 a1 t256 a3 t261 t263 t266 t268 true)) = some r := H
  have A16 := Aside0.mk A160
  clear A160
  by_cases c17 : t271 = true
  ·subst c17
   have H1 : (if t263 = 0 then (if (t261.isEmpty) = true then (endonymlaw4_TrieSame.j0 k t250 a1 t256 a3 t261 t263 t266 t268 true) else (if t268 = 0 then (endonymlaw4_TrieSame.j0 k t250 a1 t256 a3 t261 t263 t266 t268 (t266.isEmpty)) else (endonymlaw4_TrieSame.j0 k t250 a1 t256 a3 t261 t263 t266 t268 false))) else (if t268 = 0 then (endonymlaw4_TrieSame.j0 k t250 a1 t256 a3 t261 t263 t266 t268 (t266.isEmpty)) else (endonymlaw4_TrieSame.j0 k t250 a1 t256 a3 t261 t263 t266 t268 false))) = some r := by rw [if_pos rfl] at H; exact H
   clear H
   have H := H1
   clear H1
   by_cases c18 : t263 = 0
   ·rw [if_pos c18] at H
    have c18b0 : (t263 == 0) = true := beq_iff_eq.mpr c18
    have c18b1 : (t263 != 0) = false := bne_eq_false_iff_eq.mpr c18
    clear c18
    (first | rw [c18b0] | (simp only [i64_w, i32_w]; rw [c18b0]) | skip)
    by_cases c19 : (t261.isEmpty) = true
    ·rw [if_pos c19] at H
     have c19b0 : (t261.isEmpty) = true := c19
     clear c19
     have H' := Aside0.mk H
     clear H
     go_wp2_with (first | ((with_reducible refine gate_callee (f := 11) rfl ?_); refine goesL_ (some 40) rfl rfl Try.func11 (by kernel_rfl) rfl #[] rfl (by (try simp only [List.map_toArray, List.map_cons, List.map_nil]); first | done | rfl | (simp only [List.length_drop, List.length_take]; rfl)) ?_; (with_reducible refine (endonymlaw4_told.calls k  true _ A16.out).mono ?_); rintro e w20 ⟨rfl, hb⟩; refine ⟨_, rfl, ?_⟩; have n0_ := Aside0.mk (Kd.R_below (by (with_reducible repeat (first | apply Kd.R_alloc | apply Kd.R_drewN | apply Kd.R_drew)); first | exact HO252.out | exact Kd.R_mono HO252.out (fun _ hk => ⟨⟨(by first | exact hk.1.1 | exact fun e_ => hk.1.1 (e_.trans (own_len _ _ _ _ _))), (by first | exact hk.1.2 | exact fun e_ => hk.1.2 (e_.trans (own_len _ _ _ _ _)))⟩, (by first | exact hk.2 | exact fun e_ => hk.2 (e_.trans (own_len _ _ _ _ _)))⟩)) hb); have n1_ := Aside0.mk (Kd.R_below (by (with_reducible repeat (first | apply Kd.R_alloc | apply Kd.R_drewN | apply Kd.R_drew)); first | exact HO254.out | exact Kd.R_mono HO254.out (fun _ hk => ⟨⟨(by first | exact hk.1.1 | exact fun e_ => hk.1.1 (e_.trans (own_len _ _ _ _ _))), (by first | exact hk.1.2 | exact fun e_ => hk.1.2 (e_.trans (own_len _ _ _ _ _)))⟩, (by first | exact hk.2 | exact fun e_ => hk.2 (e_.trans (own_len _ _ _ _ _)))⟩)) hb); have n2_ := Aside0.mk (Kd.R_below (by (with_reducible repeat (first | apply Kd.R_alloc | apply Kd.R_drewN | apply Kd.R_drew)); first | exact HO258.out | exact Kd.R_mono HO258.out (fun _ hk => ⟨⟨(by first | exact hk.1.1 | exact fun e_ => hk.1.1 (e_.trans (own_len _ _ _ _ _))), (by first | exact hk.1.2 | exact fun e_ => hk.1.2 (e_.trans (own_len _ _ _ _ _)))⟩, (by first | exact hk.2 | exact fun e_ => hk.2 (e_.trans (own_len _ _ _ _ _)))⟩)) hb); have n3_ := Aside0.mk (Kd.R_below (by (with_reducible repeat (first | apply Kd.R_alloc | apply Kd.R_drewN | apply Kd.R_drew)); first | exact HO260.out | exact Kd.R_mono HO260.out (fun _ hk => ⟨⟨(by first | exact hk.1.1 | exact fun e_ => hk.1.1 (e_.trans (own_len _ _ _ _ _))), (by first | exact hk.1.2 | exact fun e_ => hk.1.2 (e_.trans (own_len _ _ _ _ _)))⟩, (by first | exact hk.2 | exact fun e_ => hk.2 (e_.trans (own_len _ _ _ _ _)))⟩)) hb); have n4_ := Aside0.mk (Kd.P_below (by (with_reducible repeat (first | apply Kd.P_alloc | apply Kd.P_drewN | apply Kd.P_drew)); first | exact HO265.out | exact Kd.P_mono HO265.out (fun _ hk => ⟨trivial, (by first | exact hk.2 | exact fun e_ => hk.2 (e_.trans (own_len _ _ _ _ _)))⟩)) hb); have n5_ := Aside0.mk (Kd.P_below (by (with_reducible repeat (first | apply Kd.P_alloc | apply Kd.P_drewN | apply Kd.P_drew)); first | exact HO270.out | exact Kd.P_mono HO270.out (fun _ hk => ⟨trivial, (by first | exact hk.2 | exact fun e_ => hk.2 (e_.trans (own_len _ _ _ _ _)))⟩)) hb); have n6_ := Aside0.mk (below_step (by repeat (first | (with_reducible first | exact HB.out | apply below_alloc | apply pw_below_drewN | apply below_drew1) | exact HB.out)) hb); clear HO252; clear HO254; clear HO258; clear HO260; clear HO265; clear HO270; clear HB; have HO252 := n0_; have HO254 := n1_; have HO258 := n2_; have HO260 := n3_; have HO265 := n4_; have HO270 := n5_; have HB := n6_; clear n0_ n1_ n2_ n3_ n4_ n5_ n6_; (try clear hb); (try clear hb2); (try clear hk); (try clear hi); obtain ⟨Ao21, co21, eo21⟩ := Kd.P_slice HO265.out; subst eo21; have hz22 := Kd.PC_isNone ((Kd.P_reads' HO265.out).2.2)))
     go_meet
     case rel => exact ⟨_, (true), (by first | rfl | (simp; done) | (simp [*]; done)), H', ⟨by first | omega | exact Nat.le_refl _⟩, ⟨by (with_reducible repeat (first | apply Kd.R_alloc | apply Kd.R_drewN | apply Kd.R_drew)); first | exact Kd.R_mono HO254.out (fun _ hk => hk.2) | exact Kd.R_mono HO254.out (fun _ hk => (by first | exact hk.2 | exact fun e_ => hk.2 (e_.trans (own_len _ _ _ _ _))))⟩, ⟨by (with_reducible repeat (first | apply Kd.R_alloc | apply Kd.R_drewN | apply Kd.R_drew)); first | exact Kd.R_mono HO260.out (fun _ hk => hk.2) | exact Kd.R_mono HO260.out (fun _ hk => (by first | exact hk.2 | exact fun e_ => hk.2 (e_.trans (own_len _ _ _ _ _))))⟩, ⟨by (with_reducible repeat (first | apply Kd.P_alloc | apply Kd.P_drewN | apply Kd.P_drew)); first | exact Kd.P_mono HO265.out (fun _ hk => hk.2) | exact Kd.P_mono HO265.out (fun _ hk => (by first | exact hk.2 | exact fun e_ => hk.2 (e_.trans (own_len _ _ _ _ _))))⟩, ⟨by (with_reducible repeat (first | apply Kd.P_alloc | apply Kd.P_drewN | apply Kd.P_drew)); first | exact Kd.P_mono HO270.out (fun _ hk => hk.2) | exact Kd.P_mono HO270.out (fun _ hk => (by first | exact hk.2 | exact fun e_ => hk.2 (e_.trans (own_len _ _ _ _ _))))⟩, ⟨by repeat (first | (with_reducible first | exact HB.out | apply below_alloc | apply pw_below_drewN | apply below_drew1) | exact HB.out)⟩⟩
    ·rw [if_neg c19] at H
     have c19b0 : (t261.isEmpty) = false := by simpa using c19
     clear c19
     by_cases c23 : t268 = 0
     ·rw [if_pos c23] at H
      have c23b0 : (t268 == 0) = true := beq_iff_eq.mpr c23
      have c23b1 : (t268 != 0) = false := bne_eq_false_iff_eq.mpr c23
      clear c23
      have H' := Aside0.mk H
      clear H
      go_wp2_with (first | ((with_reducible refine gate_callee (f := 11) rfl ?_); refine goesL_ (some 40) rfl rfl Try.func11 (by kernel_rfl) rfl #[] rfl (by (try simp only [List.map_toArray, List.map_cons, List.map_nil]); first | done | rfl | (simp only [List.length_drop, List.length_take]; rfl)) ?_; (with_reducible refine (endonymlaw4_told.calls k  true _ A16.out).mono ?_); rintro e w24 ⟨rfl, hb⟩; refine ⟨_, rfl, ?_⟩; have n0_ := Aside0.mk (Kd.R_below (by (with_reducible repeat (first | apply Kd.R_alloc | apply Kd.R_drewN | apply Kd.R_drew)); first | exact HO252.out | exact Kd.R_mono HO252.out (fun _ hk => ⟨⟨(by first | exact hk.1.1 | exact fun e_ => hk.1.1 (e_.trans (own_len _ _ _ _ _))), (by first | exact hk.1.2 | exact fun e_ => hk.1.2 (e_.trans (own_len _ _ _ _ _)))⟩, (by first | exact hk.2 | exact fun e_ => hk.2 (e_.trans (own_len _ _ _ _ _)))⟩)) hb); have n1_ := Aside0.mk (Kd.R_below (by (with_reducible repeat (first | apply Kd.R_alloc | apply Kd.R_drewN | apply Kd.R_drew)); first | exact HO254.out | exact Kd.R_mono HO254.out (fun _ hk => ⟨⟨(by first | exact hk.1.1 | exact fun e_ => hk.1.1 (e_.trans (own_len _ _ _ _ _))), (by first | exact hk.1.2 | exact fun e_ => hk.1.2 (e_.trans (own_len _ _ _ _ _)))⟩, (by first | exact hk.2 | exact fun e_ => hk.2 (e_.trans (own_len _ _ _ _ _)))⟩)) hb); have n2_ := Aside0.mk (Kd.R_below (by (with_reducible repeat (first | apply Kd.R_alloc | apply Kd.R_drewN | apply Kd.R_drew)); first | exact HO258.out | exact Kd.R_mono HO258.out (fun _ hk => ⟨⟨(by first | exact hk.1.1 | exact fun e_ => hk.1.1 (e_.trans (own_len _ _ _ _ _))), (by first | exact hk.1.2 | exact fun e_ => hk.1.2 (e_.trans (own_len _ _ _ _ _)))⟩, (by first | exact hk.2 | exact fun e_ => hk.2 (e_.trans (own_len _ _ _ _ _)))⟩)) hb); have n3_ := Aside0.mk (Kd.R_below (by (with_reducible repeat (first | apply Kd.R_alloc | apply Kd.R_drewN | apply Kd.R_drew)); first | exact HO260.out | exact Kd.R_mono HO260.out (fun _ hk => ⟨⟨(by first | exact hk.1.1 | exact fun e_ => hk.1.1 (e_.trans (own_len _ _ _ _ _))), (by first | exact hk.1.2 | exact fun e_ => hk.1.2 (e_.trans (own_len _ _ _ _ _)))⟩, (by first | exact hk.2 | exact fun e_ => hk.2 (e_.trans (own_len _ _ _ _ _)))⟩)) hb); have n4_ := Aside0.mk (Kd.P_below (by (with_reducible repeat (first | apply Kd.P_alloc | apply Kd.P_drewN | apply Kd.P_drew)); first | exact HO265.out | exact Kd.P_mono HO265.out (fun _ hk => ⟨trivial, (by first | exact hk.2 | exact fun e_ => hk.2 (e_.trans (own_len _ _ _ _ _)))⟩)) hb); have n5_ := Aside0.mk (Kd.P_below (by (with_reducible repeat (first | apply Kd.P_alloc | apply Kd.P_drewN | apply Kd.P_drew)); first | exact HO270.out | exact Kd.P_mono HO270.out (fun _ hk => ⟨trivial, (by first | exact hk.2 | exact fun e_ => hk.2 (e_.trans (own_len _ _ _ _ _)))⟩)) hb); have n6_ := Aside0.mk (below_step (by repeat (first | (with_reducible first | exact HB.out | apply below_alloc | apply pw_below_drewN | apply below_drew1) | exact HB.out)) hb); clear HO252; clear HO254; clear HO258; clear HO260; clear HO265; clear HO270; clear HB; have HO252 := n0_; have HO254 := n1_; have HO258 := n2_; have HO260 := n3_; have HO265 := n4_; have HO270 := n5_; have HB := n6_; clear n0_ n1_ n2_ n3_ n4_ n5_ n6_; (try clear hb); (try clear hb2); (try clear hk); (try clear hi); obtain ⟨Ao25, co25, eo25⟩ := Kd.P_slice HO265.out; subst eo25; have hz26 := Kd.PC_isNone ((Kd.P_reads' HO265.out).2.2); obtain ⟨Ao27, co27, eo27⟩ := Kd.P_slice HO270.out; subst eo27; have hz28 := Kd.PC_isNone ((Kd.P_reads' HO270.out).2.2)))
      go_meet
      case rel => exact ⟨_, ((t266.isEmpty)), (by first | rfl | (simp; done) | (simp [*]; done)), H', ⟨by first | omega | exact Nat.le_refl _⟩, ⟨by (with_reducible repeat (first | apply Kd.R_alloc | apply Kd.R_drewN | apply Kd.R_drew)); first | exact Kd.R_mono HO254.out (fun _ hk => hk.2) | exact Kd.R_mono HO254.out (fun _ hk => (by first | exact hk.2 | exact fun e_ => hk.2 (e_.trans (own_len _ _ _ _ _))))⟩, ⟨by (with_reducible repeat (first | apply Kd.R_alloc | apply Kd.R_drewN | apply Kd.R_drew)); first | exact Kd.R_mono HO260.out (fun _ hk => hk.2) | exact Kd.R_mono HO260.out (fun _ hk => (by first | exact hk.2 | exact fun e_ => hk.2 (e_.trans (own_len _ _ _ _ _))))⟩, ⟨by (with_reducible repeat (first | apply Kd.P_alloc | apply Kd.P_drewN | apply Kd.P_drew)); first | exact Kd.P_mono HO265.out (fun _ hk => hk.2) | exact Kd.P_mono HO265.out (fun _ hk => (by first | exact hk.2 | exact fun e_ => hk.2 (e_.trans (own_len _ _ _ _ _))))⟩, ⟨by (with_reducible repeat (first | apply Kd.P_alloc | apply Kd.P_drewN | apply Kd.P_drew)); first | exact Kd.P_mono HO270.out (fun _ hk => hk.2) | exact Kd.P_mono HO270.out (fun _ hk => (by first | exact hk.2 | exact fun e_ => hk.2 (e_.trans (own_len _ _ _ _ _))))⟩, ⟨by repeat (first | (with_reducible first | exact HB.out | apply below_alloc | apply pw_below_drewN | apply below_drew1) | exact HB.out)⟩⟩
     ·rw [if_neg c23] at H
      have c23b0 : (t268 == 0) = false := beq_eq_false_iff_ne.mpr c23
      have c23b1 : (t268 != 0) = true := bne_iff_ne.mpr c23
      have H' := Aside0.mk H
      clear H
      go_wp2_with (first | ((with_reducible refine gate_callee (f := 11) rfl ?_); refine goesL_ (some 40) rfl rfl Try.func11 (by kernel_rfl) rfl #[] rfl (by (try simp only [List.map_toArray, List.map_cons, List.map_nil]); first | done | rfl | (simp only [List.length_drop, List.length_take]; rfl)) ?_; (with_reducible refine (endonymlaw4_told.calls k  true _ A16.out).mono ?_); rintro e w29 ⟨rfl, hb⟩; refine ⟨_, rfl, ?_⟩; have n0_ := Aside0.mk (Kd.R_below (by (with_reducible repeat (first | apply Kd.R_alloc | apply Kd.R_drewN | apply Kd.R_drew)); first | exact HO252.out | exact Kd.R_mono HO252.out (fun _ hk => ⟨⟨(by first | exact hk.1.1 | exact fun e_ => hk.1.1 (e_.trans (own_len _ _ _ _ _))), (by first | exact hk.1.2 | exact fun e_ => hk.1.2 (e_.trans (own_len _ _ _ _ _)))⟩, (by first | exact hk.2 | exact fun e_ => hk.2 (e_.trans (own_len _ _ _ _ _)))⟩)) hb); have n1_ := Aside0.mk (Kd.R_below (by (with_reducible repeat (first | apply Kd.R_alloc | apply Kd.R_drewN | apply Kd.R_drew)); first | exact HO254.out | exact Kd.R_mono HO254.out (fun _ hk => ⟨⟨(by first | exact hk.1.1 | exact fun e_ => hk.1.1 (e_.trans (own_len _ _ _ _ _))), (by first | exact hk.1.2 | exact fun e_ => hk.1.2 (e_.trans (own_len _ _ _ _ _)))⟩, (by first | exact hk.2 | exact fun e_ => hk.2 (e_.trans (own_len _ _ _ _ _)))⟩)) hb); have n2_ := Aside0.mk (Kd.R_below (by (with_reducible repeat (first | apply Kd.R_alloc | apply Kd.R_drewN | apply Kd.R_drew)); first | exact HO258.out | exact Kd.R_mono HO258.out (fun _ hk => ⟨⟨(by first | exact hk.1.1 | exact fun e_ => hk.1.1 (e_.trans (own_len _ _ _ _ _))), (by first | exact hk.1.2 | exact fun e_ => hk.1.2 (e_.trans (own_len _ _ _ _ _)))⟩, (by first | exact hk.2 | exact fun e_ => hk.2 (e_.trans (own_len _ _ _ _ _)))⟩)) hb); have n3_ := Aside0.mk (Kd.R_below (by (with_reducible repeat (first | apply Kd.R_alloc | apply Kd.R_drewN | apply Kd.R_drew)); first | exact HO260.out | exact Kd.R_mono HO260.out (fun _ hk => ⟨⟨(by first | exact hk.1.1 | exact fun e_ => hk.1.1 (e_.trans (own_len _ _ _ _ _))), (by first | exact hk.1.2 | exact fun e_ => hk.1.2 (e_.trans (own_len _ _ _ _ _)))⟩, (by first | exact hk.2 | exact fun e_ => hk.2 (e_.trans (own_len _ _ _ _ _)))⟩)) hb); have n4_ := Aside0.mk (Kd.P_below (by (with_reducible repeat (first | apply Kd.P_alloc | apply Kd.P_drewN | apply Kd.P_drew)); first | exact HO265.out | exact Kd.P_mono HO265.out (fun _ hk => ⟨trivial, (by first | exact hk.2 | exact fun e_ => hk.2 (e_.trans (own_len _ _ _ _ _)))⟩)) hb); have n5_ := Aside0.mk (Kd.P_below (by (with_reducible repeat (first | apply Kd.P_alloc | apply Kd.P_drewN | apply Kd.P_drew)); first | exact HO270.out | exact Kd.P_mono HO270.out (fun _ hk => ⟨trivial, (by first | exact hk.2 | exact fun e_ => hk.2 (e_.trans (own_len _ _ _ _ _)))⟩)) hb); have n6_ := Aside0.mk (below_step (by repeat (first | (with_reducible first | exact HB.out | apply below_alloc | apply pw_below_drewN | apply below_drew1) | exact HB.out)) hb); clear HO252; clear HO254; clear HO258; clear HO260; clear HO265; clear HO270; clear HB; have HO252 := n0_; have HO254 := n1_; have HO258 := n2_; have HO260 := n3_; have HO265 := n4_; have HO270 := n5_; have HB := n6_; clear n0_ n1_ n2_ n3_ n4_ n5_ n6_; (try clear hb); (try clear hb2); (try clear hk); (try clear hi); obtain ⟨Ao30, co30, eo30⟩ := Kd.P_slice HO265.out; subst eo30; have hz31 := Kd.PC_isNone ((Kd.P_reads' HO265.out).2.2)))
      go_meet
      case rel => exact ⟨_, (false), (by first | rfl | (simp; done) | (simp [*]; done)), H', ⟨by first | omega | exact Nat.le_refl _⟩, ⟨by (with_reducible repeat (first | apply Kd.R_alloc | apply Kd.R_drewN | apply Kd.R_drew)); first | exact Kd.R_mono HO254.out (fun _ hk => hk.2) | exact Kd.R_mono HO254.out (fun _ hk => (by first | exact hk.2 | exact fun e_ => hk.2 (e_.trans (own_len _ _ _ _ _))))⟩, ⟨by (with_reducible repeat (first | apply Kd.R_alloc | apply Kd.R_drewN | apply Kd.R_drew)); first | exact Kd.R_mono HO260.out (fun _ hk => hk.2) | exact Kd.R_mono HO260.out (fun _ hk => (by first | exact hk.2 | exact fun e_ => hk.2 (e_.trans (own_len _ _ _ _ _))))⟩, ⟨by (with_reducible repeat (first | apply Kd.P_alloc | apply Kd.P_drewN | apply Kd.P_drew)); first | exact Kd.P_mono HO265.out (fun _ hk => hk.2) | exact Kd.P_mono HO265.out (fun _ hk => (by first | exact hk.2 | exact fun e_ => hk.2 (e_.trans (own_len _ _ _ _ _))))⟩, ⟨by (with_reducible repeat (first | apply Kd.P_alloc | apply Kd.P_drewN | apply Kd.P_drew)); first | exact Kd.P_mono HO270.out (fun _ hk => hk.2) | exact Kd.P_mono HO270.out (fun _ hk => (by first | exact hk.2 | exact fun e_ => hk.2 (e_.trans (own_len _ _ _ _ _))))⟩, ⟨by repeat (first | (with_reducible first | exact HB.out | apply below_alloc | apply pw_below_drewN | apply below_drew1) | exact HB.out)⟩⟩
   ·rw [if_neg c18] at H
    have c18b0 : (t263 == 0) = false := beq_eq_false_iff_ne.mpr c18
    have c18b1 : (t263 != 0) = true := bne_iff_ne.mpr c18
    (first | rw [c18b0] | (simp only [i64_w, i32_w]; rw [c18b0]) | skip)
    by_cases c32 : t268 = 0
    ·rw [if_pos c32] at H
     have c32b0 : (t268 == 0) = true := beq_iff_eq.mpr c32
     have c32b1 : (t268 != 0) = false := bne_eq_false_iff_eq.mpr c32
     clear c32
     have H' := Aside0.mk H
     clear H
     go_wp2_with (first | ((with_reducible refine gate_callee (f := 11) rfl ?_); refine goesL_ (some 40) rfl rfl Try.func11 (by kernel_rfl) rfl #[] rfl (by (try simp only [List.map_toArray, List.map_cons, List.map_nil]); first | done | rfl | (simp only [List.length_drop, List.length_take]; rfl)) ?_; (with_reducible refine (endonymlaw4_told.calls k  true _ A16.out).mono ?_); rintro e w33 ⟨rfl, hb⟩; refine ⟨_, rfl, ?_⟩; have n0_ := Aside0.mk (Kd.R_below (by (with_reducible repeat (first | apply Kd.R_alloc | apply Kd.R_drewN | apply Kd.R_drew)); first | exact HO252.out | exact Kd.R_mono HO252.out (fun _ hk => ⟨⟨(by first | exact hk.1.1 | exact fun e_ => hk.1.1 (e_.trans (own_len _ _ _ _ _))), (by first | exact hk.1.2 | exact fun e_ => hk.1.2 (e_.trans (own_len _ _ _ _ _)))⟩, (by first | exact hk.2 | exact fun e_ => hk.2 (e_.trans (own_len _ _ _ _ _)))⟩)) hb); have n1_ := Aside0.mk (Kd.R_below (by (with_reducible repeat (first | apply Kd.R_alloc | apply Kd.R_drewN | apply Kd.R_drew)); first | exact HO254.out | exact Kd.R_mono HO254.out (fun _ hk => ⟨⟨(by first | exact hk.1.1 | exact fun e_ => hk.1.1 (e_.trans (own_len _ _ _ _ _))), (by first | exact hk.1.2 | exact fun e_ => hk.1.2 (e_.trans (own_len _ _ _ _ _)))⟩, (by first | exact hk.2 | exact fun e_ => hk.2 (e_.trans (own_len _ _ _ _ _)))⟩)) hb); have n2_ := Aside0.mk (Kd.R_below (by (with_reducible repeat (first | apply Kd.R_alloc | apply Kd.R_drewN | apply Kd.R_drew)); first | exact HO258.out | exact Kd.R_mono HO258.out (fun _ hk => ⟨⟨(by first | exact hk.1.1 | exact fun e_ => hk.1.1 (e_.trans (own_len _ _ _ _ _))), (by first | exact hk.1.2 | exact fun e_ => hk.1.2 (e_.trans (own_len _ _ _ _ _)))⟩, (by first | exact hk.2 | exact fun e_ => hk.2 (e_.trans (own_len _ _ _ _ _)))⟩)) hb); have n3_ := Aside0.mk (Kd.R_below (by (with_reducible repeat (first | apply Kd.R_alloc | apply Kd.R_drewN | apply Kd.R_drew)); first | exact HO260.out | exact Kd.R_mono HO260.out (fun _ hk => ⟨⟨(by first | exact hk.1.1 | exact fun e_ => hk.1.1 (e_.trans (own_len _ _ _ _ _))), (by first | exact hk.1.2 | exact fun e_ => hk.1.2 (e_.trans (own_len _ _ _ _ _)))⟩, (by first | exact hk.2 | exact fun e_ => hk.2 (e_.trans (own_len _ _ _ _ _)))⟩)) hb); have n4_ := Aside0.mk (Kd.P_below (by (with_reducible repeat (first | apply Kd.P_alloc | apply Kd.P_drewN | apply Kd.P_drew)); first | exact HO265.out | exact Kd.P_mono HO265.out (fun _ hk => ⟨trivial, (by first | exact hk.2 | exact fun e_ => hk.2 (e_.trans (own_len _ _ _ _ _)))⟩)) hb); have n5_ := Aside0.mk (Kd.P_below (by (with_reducible repeat (first | apply Kd.P_alloc | apply Kd.P_drewN | apply Kd.P_drew)); first | exact HO270.out | exact Kd.P_mono HO270.out (fun _ hk => ⟨trivial, (by first | exact hk.2 | exact fun e_ => hk.2 (e_.trans (own_len _ _ _ _ _)))⟩)) hb); have n6_ := Aside0.mk (below_step (by repeat (first | (with_reducible first | exact HB.out | apply below_alloc | apply pw_below_drewN | apply below_drew1) | exact HB.out)) hb); clear HO252; clear HO254; clear HO258; clear HO260; clear HO265; clear HO270; clear HB; have HO252 := n0_; have HO254 := n1_; have HO258 := n2_; have HO260 := n3_; have HO265 := n4_; have HO270 := n5_; have HB := n6_; clear n0_ n1_ n2_ n3_ n4_ n5_ n6_; (try clear hb); (try clear hb2); (try clear hk); (try clear hi); obtain ⟨Ao34, co34, eo34⟩ := Kd.P_slice HO270.out; subst eo34; have hz35 := Kd.PC_isNone ((Kd.P_reads' HO270.out).2.2)))
     go_meet
     case rel => exact ⟨_, ((t266.isEmpty)), (by first | rfl | (simp; done) | (simp [*]; done)), H', ⟨by first | omega | exact Nat.le_refl _⟩, ⟨by (with_reducible repeat (first | apply Kd.R_alloc | apply Kd.R_drewN | apply Kd.R_drew)); first | exact Kd.R_mono HO254.out (fun _ hk => hk.2) | exact Kd.R_mono HO254.out (fun _ hk => (by first | exact hk.2 | exact fun e_ => hk.2 (e_.trans (own_len _ _ _ _ _))))⟩, ⟨by (with_reducible repeat (first | apply Kd.R_alloc | apply Kd.R_drewN | apply Kd.R_drew)); first | exact Kd.R_mono HO260.out (fun _ hk => hk.2) | exact Kd.R_mono HO260.out (fun _ hk => (by first | exact hk.2 | exact fun e_ => hk.2 (e_.trans (own_len _ _ _ _ _))))⟩, ⟨by (with_reducible repeat (first | apply Kd.P_alloc | apply Kd.P_drewN | apply Kd.P_drew)); first | exact Kd.P_mono HO265.out (fun _ hk => hk.2) | exact Kd.P_mono HO265.out (fun _ hk => (by first | exact hk.2 | exact fun e_ => hk.2 (e_.trans (own_len _ _ _ _ _))))⟩, ⟨by (with_reducible repeat (first | apply Kd.P_alloc | apply Kd.P_drewN | apply Kd.P_drew)); first | exact Kd.P_mono HO270.out (fun _ hk => hk.2) | exact Kd.P_mono HO270.out (fun _ hk => (by first | exact hk.2 | exact fun e_ => hk.2 (e_.trans (own_len _ _ _ _ _))))⟩, ⟨by repeat (first | (with_reducible first | exact HB.out | apply below_alloc | apply pw_below_drewN | apply below_drew1) | exact HB.out)⟩⟩
    ·rw [if_neg c32] at H
     have c32b0 : (t268 == 0) = false := beq_eq_false_iff_ne.mpr c32
     have c32b1 : (t268 != 0) = true := bne_iff_ne.mpr c32
     have H' := Aside0.mk H
     clear H
     go_wp2_with (first | ((with_reducible refine gate_callee (f := 11) rfl ?_); refine goesL_ (some 40) rfl rfl Try.func11 (by kernel_rfl) rfl #[] rfl (by (try simp only [List.map_toArray, List.map_cons, List.map_nil]); first | done | rfl | (simp only [List.length_drop, List.length_take]; rfl)) ?_; (with_reducible refine (endonymlaw4_told.calls k  true _ A16.out).mono ?_); rintro e w36 ⟨rfl, hb⟩; refine ⟨_, rfl, ?_⟩; have n0_ := Aside0.mk (Kd.R_below (by (with_reducible repeat (first | apply Kd.R_alloc | apply Kd.R_drewN | apply Kd.R_drew)); first | exact HO252.out | exact Kd.R_mono HO252.out (fun _ hk => ⟨⟨(by first | exact hk.1.1 | exact fun e_ => hk.1.1 (e_.trans (own_len _ _ _ _ _))), (by first | exact hk.1.2 | exact fun e_ => hk.1.2 (e_.trans (own_len _ _ _ _ _)))⟩, (by first | exact hk.2 | exact fun e_ => hk.2 (e_.trans (own_len _ _ _ _ _)))⟩)) hb); have n1_ := Aside0.mk (Kd.R_below (by (with_reducible repeat (first | apply Kd.R_alloc | apply Kd.R_drewN | apply Kd.R_drew)); first | exact HO254.out | exact Kd.R_mono HO254.out (fun _ hk => ⟨⟨(by first | exact hk.1.1 | exact fun e_ => hk.1.1 (e_.trans (own_len _ _ _ _ _))), (by first | exact hk.1.2 | exact fun e_ => hk.1.2 (e_.trans (own_len _ _ _ _ _)))⟩, (by first | exact hk.2 | exact fun e_ => hk.2 (e_.trans (own_len _ _ _ _ _)))⟩)) hb); have n2_ := Aside0.mk (Kd.R_below (by (with_reducible repeat (first | apply Kd.R_alloc | apply Kd.R_drewN | apply Kd.R_drew)); first | exact HO258.out | exact Kd.R_mono HO258.out (fun _ hk => ⟨⟨(by first | exact hk.1.1 | exact fun e_ => hk.1.1 (e_.trans (own_len _ _ _ _ _))), (by first | exact hk.1.2 | exact fun e_ => hk.1.2 (e_.trans (own_len _ _ _ _ _)))⟩, (by first | exact hk.2 | exact fun e_ => hk.2 (e_.trans (own_len _ _ _ _ _)))⟩)) hb); have n3_ := Aside0.mk (Kd.R_below (by (with_reducible repeat (first | apply Kd.R_alloc | apply Kd.R_drewN | apply Kd.R_drew)); first | exact HO260.out | exact Kd.R_mono HO260.out (fun _ hk => ⟨⟨(by first | exact hk.1.1 | exact fun e_ => hk.1.1 (e_.trans (own_len _ _ _ _ _))), (by first | exact hk.1.2 | exact fun e_ => hk.1.2 (e_.trans (own_len _ _ _ _ _)))⟩, (by first | exact hk.2 | exact fun e_ => hk.2 (e_.trans (own_len _ _ _ _ _)))⟩)) hb); have n4_ := Aside0.mk (Kd.P_below (by (with_reducible repeat (first | apply Kd.P_alloc | apply Kd.P_drewN | apply Kd.P_drew)); first | exact HO265.out | exact Kd.P_mono HO265.out (fun _ hk => ⟨trivial, (by first | exact hk.2 | exact fun e_ => hk.2 (e_.trans (own_len _ _ _ _ _)))⟩)) hb); have n5_ := Aside0.mk (Kd.P_below (by (with_reducible repeat (first | apply Kd.P_alloc | apply Kd.P_drewN | apply Kd.P_drew)); first | exact HO270.out | exact Kd.P_mono HO270.out (fun _ hk => ⟨trivial, (by first | exact hk.2 | exact fun e_ => hk.2 (e_.trans (own_len _ _ _ _ _)))⟩)) hb); have n6_ := Aside0.mk (below_step (by repeat (first | (with_reducible first | exact HB.out | apply below_alloc | apply pw_below_drewN | apply below_drew1) | exact HB.out)) hb); clear HO252; clear HO254; clear HO258; clear HO260; clear HO265; clear HO270; clear HB; have HO252 := n0_; have HO254 := n1_; have HO258 := n2_; have HO260 := n3_; have HO265 := n4_; have HO270 := n5_; have HB := n6_; clear n0_ n1_ n2_ n3_ n4_ n5_ n6_; (try clear hb); (try clear hb2); (try clear hk); (try clear hi)))
     go_meet
     case rel => exact ⟨_, (false), (by first | rfl | (simp; done) | (simp [*]; done)), H', ⟨by first | omega | exact Nat.le_refl _⟩, ⟨by (with_reducible repeat (first | apply Kd.R_alloc | apply Kd.R_drewN | apply Kd.R_drew)); first | exact Kd.R_mono HO254.out (fun _ hk => hk.2) | exact Kd.R_mono HO254.out (fun _ hk => (by first | exact hk.2 | exact fun e_ => hk.2 (e_.trans (own_len _ _ _ _ _))))⟩, ⟨by (with_reducible repeat (first | apply Kd.R_alloc | apply Kd.R_drewN | apply Kd.R_drew)); first | exact Kd.R_mono HO260.out (fun _ hk => hk.2) | exact Kd.R_mono HO260.out (fun _ hk => (by first | exact hk.2 | exact fun e_ => hk.2 (e_.trans (own_len _ _ _ _ _))))⟩, ⟨by (with_reducible repeat (first | apply Kd.P_alloc | apply Kd.P_drewN | apply Kd.P_drew)); first | exact Kd.P_mono HO265.out (fun _ hk => hk.2) | exact Kd.P_mono HO265.out (fun _ hk => (by first | exact hk.2 | exact fun e_ => hk.2 (e_.trans (own_len _ _ _ _ _))))⟩, ⟨by (with_reducible repeat (first | apply Kd.P_alloc | apply Kd.P_drewN | apply Kd.P_drew)); first | exact Kd.P_mono HO270.out (fun _ hk => hk.2) | exact Kd.P_mono HO270.out (fun _ hk => (by first | exact hk.2 | exact fun e_ => hk.2 (e_.trans (own_len _ _ _ _ _))))⟩, ⟨by repeat (first | (with_reducible first | exact HB.out | apply below_alloc | apply pw_below_drewN | apply below_drew1) | exact HB.out)⟩⟩
  ·replace c17 := Bool.eq_false_iff.mpr c17
   subst c17
   have H1 : (endonymlaw4_TrieSame.j0 k t250 a1 t256 a3 t261 t263 t266 t268 true) = some r := by rw [if_neg (show ¬ (false = true) by decide)] at H; exact H
   clear H
   have H := H1
   clear H1
   have H' := Aside0.mk H
   clear H
   go_wp2_with (first | ((with_reducible refine gate_callee (f := 11) rfl ?_); refine goesL_ (some 40) rfl rfl Try.func11 (by kernel_rfl) rfl #[] rfl (by (try simp only [List.map_toArray, List.map_cons, List.map_nil]); first | done | rfl | (simp only [List.length_drop, List.length_take]; rfl)) ?_; (with_reducible refine (endonymlaw4_told.calls k  false _ A16.out).mono ?_); rintro e w37 ⟨rfl, hb⟩; refine ⟨_, rfl, ?_⟩; have n0_ := Aside0.mk (Kd.R_below (by (with_reducible repeat (first | apply Kd.R_alloc | apply Kd.R_drewN | apply Kd.R_drew)); first | exact HO252.out | exact Kd.R_mono HO252.out (fun _ hk => ⟨⟨(by first | exact hk.1.1 | exact fun e_ => hk.1.1 (e_.trans (own_len _ _ _ _ _))), (by first | exact hk.1.2 | exact fun e_ => hk.1.2 (e_.trans (own_len _ _ _ _ _)))⟩, (by first | exact hk.2 | exact fun e_ => hk.2 (e_.trans (own_len _ _ _ _ _)))⟩)) hb); have n1_ := Aside0.mk (Kd.R_below (by (with_reducible repeat (first | apply Kd.R_alloc | apply Kd.R_drewN | apply Kd.R_drew)); first | exact HO254.out | exact Kd.R_mono HO254.out (fun _ hk => ⟨⟨(by first | exact hk.1.1 | exact fun e_ => hk.1.1 (e_.trans (own_len _ _ _ _ _))), (by first | exact hk.1.2 | exact fun e_ => hk.1.2 (e_.trans (own_len _ _ _ _ _)))⟩, (by first | exact hk.2 | exact fun e_ => hk.2 (e_.trans (own_len _ _ _ _ _)))⟩)) hb); have n2_ := Aside0.mk (Kd.R_below (by (with_reducible repeat (first | apply Kd.R_alloc | apply Kd.R_drewN | apply Kd.R_drew)); first | exact HO258.out | exact Kd.R_mono HO258.out (fun _ hk => ⟨⟨(by first | exact hk.1.1 | exact fun e_ => hk.1.1 (e_.trans (own_len _ _ _ _ _))), (by first | exact hk.1.2 | exact fun e_ => hk.1.2 (e_.trans (own_len _ _ _ _ _)))⟩, (by first | exact hk.2 | exact fun e_ => hk.2 (e_.trans (own_len _ _ _ _ _)))⟩)) hb); have n3_ := Aside0.mk (Kd.R_below (by (with_reducible repeat (first | apply Kd.R_alloc | apply Kd.R_drewN | apply Kd.R_drew)); first | exact HO260.out | exact Kd.R_mono HO260.out (fun _ hk => ⟨⟨(by first | exact hk.1.1 | exact fun e_ => hk.1.1 (e_.trans (own_len _ _ _ _ _))), (by first | exact hk.1.2 | exact fun e_ => hk.1.2 (e_.trans (own_len _ _ _ _ _)))⟩, (by first | exact hk.2 | exact fun e_ => hk.2 (e_.trans (own_len _ _ _ _ _)))⟩)) hb); have n4_ := Aside0.mk (Kd.P_below (by (with_reducible repeat (first | apply Kd.P_alloc | apply Kd.P_drewN | apply Kd.P_drew)); first | exact HO265.out | exact Kd.P_mono HO265.out (fun _ hk => ⟨trivial, (by first | exact hk.2 | exact fun e_ => hk.2 (e_.trans (own_len _ _ _ _ _)))⟩)) hb); have n5_ := Aside0.mk (Kd.P_below (by (with_reducible repeat (first | apply Kd.P_alloc | apply Kd.P_drewN | apply Kd.P_drew)); first | exact HO270.out | exact Kd.P_mono HO270.out (fun _ hk => ⟨trivial, (by first | exact hk.2 | exact fun e_ => hk.2 (e_.trans (own_len _ _ _ _ _)))⟩)) hb); have n6_ := Aside0.mk (below_step (by repeat (first | (with_reducible first | exact HB.out | apply below_alloc | apply pw_below_drewN | apply below_drew1) | exact HB.out)) hb); clear HO252; clear HO254; clear HO258; clear HO260; clear HO265; clear HO270; clear HB; have HO252 := n0_; have HO254 := n1_; have HO258 := n2_; have HO260 := n3_; have HO265 := n4_; have HO270 := n5_; have HB := n6_; clear n0_ n1_ n2_ n3_ n4_ n5_ n6_; (try clear hb); (try clear hb2); (try clear hk); (try clear hi)))
   go_meet
   case rel => exact ⟨_, (true), (by first | rfl | (simp; done) | (simp [*]; done)), H', ⟨by first | omega | exact Nat.le_refl _⟩, ⟨by (with_reducible repeat (first | apply Kd.R_alloc | apply Kd.R_drewN | apply Kd.R_drew)); first | exact Kd.R_mono HO254.out (fun _ hk => hk.2) | exact Kd.R_mono HO254.out (fun _ hk => (by first | exact hk.2 | exact fun e_ => hk.2 (e_.trans (own_len _ _ _ _ _))))⟩, ⟨by (with_reducible repeat (first | apply Kd.R_alloc | apply Kd.R_drewN | apply Kd.R_drew)); first | exact Kd.R_mono HO260.out (fun _ hk => hk.2) | exact Kd.R_mono HO260.out (fun _ hk => (by first | exact hk.2 | exact fun e_ => hk.2 (e_.trans (own_len _ _ _ _ _))))⟩, ⟨by (with_reducible repeat (first | apply Kd.P_alloc | apply Kd.P_drewN | apply Kd.P_drew)); first | exact Kd.P_mono HO265.out (fun _ hk => hk.2) | exact Kd.P_mono HO265.out (fun _ hk => (by first | exact hk.2 | exact fun e_ => hk.2 (e_.trans (own_len _ _ _ _ _))))⟩, ⟨by (with_reducible repeat (first | apply Kd.P_alloc | apply Kd.P_drewN | apply Kd.P_drew)); first | exact Kd.P_mono HO270.out (fun _ hk => hk.2) | exact Kd.P_mono HO270.out (fun _ hk => (by first | exact hk.2 | exact fun e_ => hk.2 (e_.trans (own_len _ _ _ _ _))))⟩, ⟨by repeat (first | (with_reducible first | exact HB.out | apply below_alloc | apply pw_below_drewN | apply below_drew1) | exact HB.out)⟩⟩
 case rest =>
  clear HC9
  try clear c1
  try clear c2
  try clear p2
  try clear c3
  try clear c4
  try clear c8
  try clear c9
  try clear c11
  try clear c17
  try clear c18
  try clear c18b0
  try clear c18b1
  try clear c19
  try clear c19b0
  try clear c23
  try clear c23b0
  try clear c23b1
  try clear c32
  try clear c32b0
  try clear c32b1
  obtain ⟨kq, x57_8, rfl, HA, HJ8, HO_0, HO_2, HO_9, HO_12, HB⟩ := hcut
  cases kq with
  | zero => exact absurd HA.out (by simp [endonymlaw4_TrieSame.j0])
  | succ kj8 =>
   have H := HA.out
   clear HA
   simp only [endonymlaw4_TrieSame.j0] at H
   by_cases c38 : x57_8 = true
   ·subst c38
    have H1 : (some false) = some r := by rw [if_pos rfl] at H; exact H
    clear H
    have H := H1
    clear H1
    obtain rfl := Option.some.inj H
    go_wp2
    go_ret
    exact ⟨by first | rfl | (simp [errW_none, errW_some] <;> rfl) | (simp [*, errW_none, errW_some] <;> rfl), by repeat (first | (with_reducible first | exact HB.out | apply below_alloc | apply pw_below_drewN | apply below_drew1) | exact HB.out)⟩
   ·replace c38 := Bool.eq_false_iff.mpr c38
    subst c38
    have H1 : (if t263 = 0 then (endonymlaw4_TrieSame.j1 kj8 t250 a1 t256 a3 t261 t266 (t268 != 0)) else (endonymlaw4_TrieSame.j1 kj8 t250 a1 t256 a3 t261 t266 true)) = some r := by rw [if_neg (show ¬ (false = true) by decide)] at H; exact H
    clear H
    have H := H1
    clear H1
    have HC39 := Aside0.mk H
    clear H
    go_upto_region 7 with (fail)
    go_cut [63] (fun v63 wc => ∃ (kq : Nat) (x63_38 : Bool), v63 = .bool x63_38 ∧ Aside0 (endonymlaw4_TrieSame.j1 kq t250 a1 t256 a3 t261 t266 x63_38 = some r) ∧ Aside0 (kq ≤ kj8) ∧ Aside0 (Kd.R k35 35 wc w.heap.size (fun k_ => some k_ ≠ ((.slice Ao14 t256.length co14) : Value).ownBlock) (.slice Ao12 t250.length co12) t250) ∧ Aside0 (Kd.R k35 35 wc w.heap.size (fun k_ => some k_ ≠ ((.slice Ao12 t250.length co12) : Value).ownBlock) (.slice Ao14 t256.length co14) t256) ∧ Aside0 (Kd.P k57 57 wc w.heap.size (fun k_ => some k_ ≠ (v269 : Value).ownBlock) v264 t261) ∧ Aside0 (Kd.P k57 57 wc w.heap.size (fun k_ => some k_ ≠ (v264 : Value).ownBlock) v269 t266) ∧ Aside0 (Below w.heap.size w wc))
    case first =>
     have H := HC39.out
     clear HC39
     by_cases c40 : t263 = 0
     ·rw [if_pos c40] at H
      have c40b0 : (t263 == 0) = true := beq_iff_eq.mpr c40
      have c40b1 : (t263 != 0) = false := bne_eq_false_iff_eq.mpr c40
      clear c40
      (first | rw [c40b0] | (simp only [i64_w, i32_w]; rw [c40b0]) | skip)
      have H' := Aside0.mk H
      clear H
      go_wp2
      go_meet
      case rel => exact ⟨_, ((t268 != 0)), (by first | rfl | (simp; done) | (simp [*]; done)), H', ⟨by have := HJ8.out; first | omega | exact Nat.le_refl _⟩, ⟨by (with_reducible repeat (first | apply Kd.R_alloc | apply Kd.R_drewN | apply Kd.R_drew)); first | exact HO_0.out | exact Kd.R_mono HO_0.out (fun _ hk => (by first | exact hk | exact fun e_ => hk (e_.trans (own_len _ _ _ _ _))))⟩, ⟨by (with_reducible repeat (first | apply Kd.R_alloc | apply Kd.R_drewN | apply Kd.R_drew)); first | exact HO_2.out | exact Kd.R_mono HO_2.out (fun _ hk => (by first | exact hk | exact fun e_ => hk (e_.trans (own_len _ _ _ _ _))))⟩, ⟨by (with_reducible repeat (first | apply Kd.P_alloc | apply Kd.P_drewN | apply Kd.P_drew)); first | exact HO_9.out | exact Kd.P_mono HO_9.out (fun _ hk => (by first | exact hk | exact fun e_ => hk (e_.trans (own_len _ _ _ _ _))))⟩, ⟨by (with_reducible repeat (first | apply Kd.P_alloc | apply Kd.P_drewN | apply Kd.P_drew)); first | exact HO_12.out | exact Kd.P_mono HO_12.out (fun _ hk => (by first | exact hk | exact fun e_ => hk (e_.trans (own_len _ _ _ _ _))))⟩, ⟨by repeat (first | (with_reducible first | exact HB.out | apply below_alloc | apply pw_below_drewN | apply below_drew1) | exact HB.out)⟩⟩
     ·rw [if_neg c40] at H
      have c40b0 : (t263 == 0) = false := beq_eq_false_iff_ne.mpr c40
      have c40b1 : (t263 != 0) = true := bne_iff_ne.mpr c40
      (first | rw [c40b0] | (simp only [i64_w, i32_w]; rw [c40b0]) | skip)
      have H' := Aside0.mk H
      clear H
      go_wp2
      go_meet
      case rel => exact ⟨_, (true), (by first | rfl | (simp; done) | (simp [*]; done)), H', ⟨by have := HJ8.out; first | omega | exact Nat.le_refl _⟩, ⟨by (with_reducible repeat (first | apply Kd.R_alloc | apply Kd.R_drewN | apply Kd.R_drew)); first | exact HO_0.out | exact Kd.R_mono HO_0.out (fun _ hk => (by first | exact hk | exact fun e_ => hk (e_.trans (own_len _ _ _ _ _))))⟩, ⟨by (with_reducible repeat (first | apply Kd.R_alloc | apply Kd.R_drewN | apply Kd.R_drew)); first | exact HO_2.out | exact Kd.R_mono HO_2.out (fun _ hk => (by first | exact hk | exact fun e_ => hk (e_.trans (own_len _ _ _ _ _))))⟩, ⟨by (with_reducible repeat (first | apply Kd.P_alloc | apply Kd.P_drewN | apply Kd.P_drew)); first | exact HO_9.out | exact Kd.P_mono HO_9.out (fun _ hk => (by first | exact hk | exact fun e_ => hk (e_.trans (own_len _ _ _ _ _))))⟩, ⟨by (with_reducible repeat (first | apply Kd.P_alloc | apply Kd.P_drewN | apply Kd.P_drew)); first | exact HO_12.out | exact Kd.P_mono HO_12.out (fun _ hk => (by first | exact hk | exact fun e_ => hk (e_.trans (own_len _ _ _ _ _))))⟩, ⟨by repeat (first | (with_reducible first | exact HB.out | apply below_alloc | apply pw_below_drewN | apply below_drew1) | exact HB.out)⟩⟩
    case rest =>
     clear HC39
     try clear c1
     try clear c2
     try clear p2
     try clear c3
     try clear c4
     try clear c8
     try clear c9
     try clear c11
     try clear c17
     try clear c18
     try clear c18b0
     try clear c18b1
     try clear c19
     try clear c19b0
     try clear c23
     try clear c23b0
     try clear c23b1
     try clear c32
     try clear c32b0
     try clear c32b1
     try clear c38
     try clear c40
     try clear c40b0
     try clear c40b1
     try clear p2
     obtain ⟨kq, x63_38, rfl, HA, HJ38, HO_0, HO_2, HO_9, HO_12, HB⟩ := hcut
     cases kq with
     | zero => exact absurd HA.out (by simp [endonymlaw4_TrieSame.j1])
     | succ kj38 =>
      have H := HA.out
      clear HA
      simp only [endonymlaw4_TrieSame.j1] at H
      by_cases c41 : x63_38 = true
      ·subst c41
       have H1 : (some true) = some r := by rw [if_pos rfl] at H; exact H
       clear H
       have H := H1
       clear H1
       obtain rfl := Option.some.inj H
       go_wp2
       go_ret
       exact ⟨by first | rfl | (simp [errW_none, errW_some] <;> rfl) | (simp [*, errW_none, errW_some] <;> rfl), by repeat (first | (with_reducible first | exact HB.out | apply below_alloc | apply pw_below_drewN | apply below_drew1) | exact HB.out)⟩
      ·replace c41 := Bool.eq_false_iff.mpr c41
       subst c41
       have H1 : (if a1 = a3 then ((endonymref4_Ranges.f kj38 t250 a1).bind fun t272 => ((endonymref4_Ranges.f kj38 t256 a3).bind fun t275 => ((endonymref4_Same.f kj38 t272 t275).bind fun t278 => (endonymlaw4_TrieSame.j2 kj38 t261 t266 t278)))) else (endonymlaw4_TrieSame.j2 kj38 t261 t266 false)) = some r := by rw [if_neg (show ¬ (false = true) by decide)] at H; exact H
       clear H
       have H := H1
       clear H1
       have HC42 := Aside0.mk H
       clear H
       go_upto_region 9 with (fail)
       go_cut [15] (fun v15 wc => ∃ (kq : Nat) (x15_41 : Bool), v15 = .bool x15_41 ∧ Aside0 (endonymlaw4_TrieSame.j2 kq t261 t266 x15_41 = some r) ∧ Aside0 (kq ≤ kj38) ∧ Aside0 (Kd.P k57 57 wc w.heap.size (fun k_ => some k_ ≠ (v269 : Value).ownBlock) v264 t261) ∧ Aside0 (Kd.P k57 57 wc w.heap.size (fun k_ => some k_ ≠ (v264 : Value).ownBlock) v269 t266) ∧ Aside0 (Below w.heap.size w wc))
       case first =>
        have H := HC42.out
        clear HC42
        by_cases c43 : a1 = a3
        ·rw [if_pos c43] at H
         have c43b0 : (a1 == a3) = true := beq_iff_eq.mpr c43
         have c43b1 : (a1 != a3) = false := bne_eq_false_iff_eq.mpr c43
         clear c43
         (first | rw [c43b0] | (simp only [i64_w, i32_w]; rw [c43b0]) | skip)
         replace H := Option.bind_eq_some_iff.mp H
         obtain ⟨t272, A440, H⟩ := H
         replace H : ((endonymref4_Ranges.f kj38 t256 a3).bind fun t275 => ((endonymref4_Same.f kj38 t272 t275).bind fun t278 => (endonymlaw4_TrieSame.j2 kj38 t261 t266 t278))) = some r := H
         have A44 := Aside0.mk A440
         clear A440
         replace H := Option.bind_eq_some_iff.mp H
         obtain ⟨t275, A450, H⟩ := H
         replace H : ((endonymref4_Same.f kj38 t272 t275).bind fun t278 => (endonymlaw4_TrieSame.j2 kj38 t261 t266 t278)) = some r := H
         have A45 := Aside0.mk A450
         clear A450
         replace H := Option.bind_eq_some_iff.mp H
         obtain ⟨t278, A460, H⟩ := H
         replace H : (endonymlaw4_TrieSame.j2 kj38 t261 t266 t278) = some r := H
         have A46 := Aside0.mk A460
         clear A460
         have H' := Aside0.mk H
         clear H
         go_wp2_with (first | (go_at_call 16; (with_reducible refine (endonymref4_Ranges.calls kj38 _ _ t250 a1 t272 _ ?side1 ?side2 A44.out).mono ?_); (case side1 => repeat (first | exact (Kd.R_reads' HO_0.out).2.2 | (with_reducible refine Kd.C_alloc ?_ _) | (with_reducible refine Kd.C_drewN ?_ _) | (with_reducible refine Kd.C_drew ?_))); (case side2 => exact (Kd.R_reads' HO_0.out).2.1); rintro e w47 ⟨v273, rfl, ho0, hb⟩; have n0_ := Aside0.mk (Kd.R_elder' (by (with_reducible repeat (first | apply Kd.R_alloc | apply Kd.R_drewN | apply Kd.R_drew)); first | exact HO_0.out | exact Kd.R_mono HO_0.out (fun _ hk => (by first | exact hk | exact fun e_ => hk (e_.trans (own_len _ _ _ _ _))))) (Kd.R_base ho0) hb); have n1_ := Aside0.mk (Kd.R_elder' (by (with_reducible repeat (first | apply Kd.R_alloc | apply Kd.R_drewN | apply Kd.R_drew)); first | exact HO_2.out | exact Kd.R_mono HO_2.out (fun _ hk => (by first | exact hk | exact fun e_ => hk (e_.trans (own_len _ _ _ _ _))))) (Kd.R_base ho0) hb); have n2_ := Aside0.mk (Kd.P_below (by (with_reducible repeat (first | apply Kd.P_alloc | apply Kd.P_drewN | apply Kd.P_drew)); first | exact HO_9.out | exact Kd.P_mono HO_9.out (fun _ hk => (by first | exact hk | exact fun e_ => hk (e_.trans (own_len _ _ _ _ _))))) hb); have n3_ := Aside0.mk (Kd.P_below (by (with_reducible repeat (first | apply Kd.P_alloc | apply Kd.P_drewN | apply Kd.P_drew)); first | exact HO_12.out | exact Kd.P_mono HO_12.out (fun _ hk => (by first | exact hk | exact fun e_ => hk (e_.trans (own_len _ _ _ _ _))))) hb); have n4_ := Aside0.mk (Kd.R_lower (Kd.R_new' (Kd.R_new' ho0 (Kd.R_lt (by (with_reducible repeat (first | apply Kd.R_alloc | apply Kd.R_drewN | apply Kd.R_drew)); first | exact HO_0.out | exact Kd.R_mono HO_0.out (fun _ hk => (by first | exact hk | exact fun e_ => hk (e_.trans (own_len _ _ _ _ _))))))) (Kd.R_lt (by (with_reducible repeat (first | apply Kd.R_alloc | apply Kd.R_drewN | apply Kd.R_drew)); first | exact HO_2.out | exact Kd.R_mono HO_2.out (fun _ hk => (by first | exact hk | exact fun e_ => hk (e_.trans (own_len _ _ _ _ _))))))) (below_size (by repeat (first | (with_reducible first | exact HB.out | apply below_alloc | apply pw_below_drewN | apply below_drew1) | exact HB.out)))); have n5_ := Aside0.mk (below_step (by repeat (first | (with_reducible first | exact HB.out | apply below_alloc | apply pw_below_drewN | apply below_drew1) | exact HB.out)) hb); clear HO_0; clear HO_2; clear HO_9; clear HO_12; clear HB; have HO_0 := n0_; have HO_2 := n1_; have HO_9 := n2_; have HO_12 := n3_; have HO274 := n4_; have HB := n5_; clear n0_ n1_ n2_ n3_ n4_ n5_; (try clear hb); (try clear hb2); (try clear hk); (try clear hi); (try clear ho0)) | (go_at_call 16; (with_reducible refine (endonymref4_Ranges.calls kj38 _ _ t256 a3 t275 _ ?side1 ?side2 A45.out).mono ?_); (case side1 => repeat (first | exact (Kd.R_reads' HO_2.out).2.2 | (with_reducible refine Kd.C_alloc ?_ _) | (with_reducible refine Kd.C_drewN ?_ _) | (with_reducible refine Kd.C_drew ?_))); (case side2 => exact (Kd.R_reads' HO_2.out).2.1); rintro e w48 ⟨v276, rfl, ho0, hb⟩; have n0_ := Aside0.mk (Kd.R_elder' (by (with_reducible repeat (first | apply Kd.R_alloc | apply Kd.R_drewN | apply Kd.R_drew)); first | exact HO_0.out | exact Kd.R_mono HO_0.out (fun _ hk => ⟨(by first | exact hk.1 | exact fun e_ => hk.1 (e_.trans (own_len _ _ _ _ _))), (by first | exact hk.2 | exact fun e_ => hk.2 (e_.trans (own_len _ _ _ _ _)))⟩)) (Kd.R_base ho0) hb); have n1_ := Aside0.mk (Kd.R_elder' (by (with_reducible repeat (first | apply Kd.R_alloc | apply Kd.R_drewN | apply Kd.R_drew)); first | exact HO_2.out | exact Kd.R_mono HO_2.out (fun _ hk => ⟨(by first | exact hk.1 | exact fun e_ => hk.1 (e_.trans (own_len _ _ _ _ _))), (by first | exact hk.2 | exact fun e_ => hk.2 (e_.trans (own_len _ _ _ _ _)))⟩)) (Kd.R_base ho0) hb); have n2_ := Aside0.mk (Kd.P_below (by (with_reducible repeat (first | apply Kd.P_alloc | apply Kd.P_drewN | apply Kd.P_drew)); first | exact HO_9.out | exact Kd.P_mono HO_9.out (fun _ hk => (by first | exact hk | exact fun e_ => hk (e_.trans (own_len _ _ _ _ _))))) hb); have n3_ := Aside0.mk (Kd.P_below (by (with_reducible repeat (first | apply Kd.P_alloc | apply Kd.P_drewN | apply Kd.P_drew)); first | exact HO_12.out | exact Kd.P_mono HO_12.out (fun _ hk => (by first | exact hk | exact fun e_ => hk (e_.trans (own_len _ _ _ _ _))))) hb); have n4_ := Aside0.mk (Kd.R_elder' (by (with_reducible repeat (first | apply Kd.R_alloc | apply Kd.R_drewN | apply Kd.R_drew)); first | exact HO274.out | exact Kd.R_mono HO274.out (fun _ hk => ⟨⟨trivial, (by first | exact hk.1.2 | exact fun e_ => hk.1.2 (e_.trans (own_len _ _ _ _ _)))⟩, (by first | exact hk.2 | exact fun e_ => hk.2 (e_.trans (own_len _ _ _ _ _)))⟩)) (Kd.R_base ho0) hb); have n5_ := Aside0.mk (Kd.R_lower (Kd.R_new' (Kd.R_new' (Kd.R_new' ho0 (Kd.R_lt (by (with_reducible repeat (first | apply Kd.R_alloc | apply Kd.R_drewN | apply Kd.R_drew)); first | exact HO_0.out | exact Kd.R_mono HO_0.out (fun _ hk => ⟨(by first | exact hk.1 | exact fun e_ => hk.1 (e_.trans (own_len _ _ _ _ _))), (by first | exact hk.2 | exact fun e_ => hk.2 (e_.trans (own_len _ _ _ _ _)))⟩)))) (Kd.R_lt (by (with_reducible repeat (first | apply Kd.R_alloc | apply Kd.R_drewN | apply Kd.R_drew)); first | exact HO_2.out | exact Kd.R_mono HO_2.out (fun _ hk => ⟨(by first | exact hk.1 | exact fun e_ => hk.1 (e_.trans (own_len _ _ _ _ _))), (by first | exact hk.2 | exact fun e_ => hk.2 (e_.trans (own_len _ _ _ _ _)))⟩)))) (Kd.R_lt (by (with_reducible repeat (first | apply Kd.R_alloc | apply Kd.R_drewN | apply Kd.R_drew)); first | exact HO274.out | exact Kd.R_mono HO274.out (fun _ hk => ⟨⟨trivial, (by first | exact hk.1.2 | exact fun e_ => hk.1.2 (e_.trans (own_len _ _ _ _ _)))⟩, (by first | exact hk.2 | exact fun e_ => hk.2 (e_.trans (own_len _ _ _ _ _)))⟩)))) (below_size (by repeat (first | (with_reducible first | exact HB.out | apply below_alloc | apply pw_below_drewN | apply below_drew1) | exact HB.out)))); have n6_ := Aside0.mk (below_step (by repeat (first | (with_reducible first | exact HB.out | apply below_alloc | apply pw_below_drewN | apply below_drew1) | exact HB.out)) hb); clear HO_0; clear HO_2; clear HO_9; clear HO_12; clear HO274; clear HB; have HO_0 := n0_; have HO_2 := n1_; have HO_9 := n2_; have HO_12 := n3_; have HO274 := n4_; have HO277 := n5_; have HB := n6_; clear n0_ n1_ n2_ n3_ n4_ n5_ n6_; (try clear hb); (try clear hb2); (try clear hk); (try clear hi); (try clear ho0); obtain ⟨Ao49, co49, eo49⟩ := Kd.R_slice HO274.out; subst eo49; obtain ⟨Ao50, co50, eo50⟩ := Kd.R_slice HO277.out; subst eo50) | (go_at_call 12; (with_reducible refine (endonymref4_Same.calls kj38 _ _ t272 _ _ t275 t278 _ ?side1 ?side2 ?side3 ?side4 A46.out).mono ?_); (case side1 => repeat (first | exact (Kd.R_reads' HO274.out).2.2 | (with_reducible refine Kd.C_alloc ?_ _) | (with_reducible refine Kd.C_drewN ?_ _) | (with_reducible refine Kd.C_drew ?_))); (case side2 => exact (Kd.R_reads' HO274.out).2.1); (case side3 => repeat (first | exact (Kd.R_reads' HO277.out).2.2 | (with_reducible refine Kd.C_alloc ?_ _) | (with_reducible refine Kd.C_drewN ?_ _) | (with_reducible refine Kd.C_drew ?_))); (case side4 => exact (Kd.R_reads' HO277.out).2.1); rintro e w' ⟨rfl, ⟨nd, rfl⟩⟩))
         go_meet
         case rel => exact ⟨_, (t278), (by first | rfl | (simp; done) | (simp [*]; done)), H', ⟨by have := HJ8.out; have := HJ38.out; first | omega | exact Nat.le_refl _⟩, ⟨by (with_reducible repeat (first | apply Kd.P_alloc | apply Kd.P_drewN | apply Kd.P_drew)); first | exact HO_9.out | exact Kd.P_mono HO_9.out (fun _ hk => (by first | exact hk | exact fun e_ => hk (e_.trans (own_len _ _ _ _ _))))⟩, ⟨by (with_reducible repeat (first | apply Kd.P_alloc | apply Kd.P_drewN | apply Kd.P_drew)); first | exact HO_12.out | exact Kd.P_mono HO_12.out (fun _ hk => (by first | exact hk | exact fun e_ => hk (e_.trans (own_len _ _ _ _ _))))⟩, ⟨by repeat (first | (with_reducible first | exact HB.out | apply below_alloc | apply pw_below_drewN | apply below_drew1) | exact HB.out)⟩⟩
        ·rw [if_neg c43] at H
         have c43b0 : (a1 == a3) = false := beq_eq_false_iff_ne.mpr c43
         have c43b1 : (a1 != a3) = true := bne_iff_ne.mpr c43
         (first | rw [c43b0] | (simp only [i64_w, i32_w]; rw [c43b0]) | skip)
         have H' := Aside0.mk H
         clear H
         go_wp2
         go_meet
         case rel => exact ⟨_, (false), (by first | rfl | (simp; done) | (simp [*]; done)), H', ⟨by have := HJ8.out; have := HJ38.out; first | omega | exact Nat.le_refl _⟩, ⟨by (with_reducible repeat (first | apply Kd.P_alloc | apply Kd.P_drewN | apply Kd.P_drew)); first | exact HO_9.out | exact Kd.P_mono HO_9.out (fun _ hk => (by first | exact hk | exact fun e_ => hk (e_.trans (own_len _ _ _ _ _))))⟩, ⟨by (with_reducible repeat (first | apply Kd.P_alloc | apply Kd.P_drewN | apply Kd.P_drew)); first | exact HO_12.out | exact Kd.P_mono HO_12.out (fun _ hk => (by first | exact hk | exact fun e_ => hk (e_.trans (own_len _ _ _ _ _))))⟩, ⟨by repeat (first | (with_reducible first | exact HB.out | apply below_alloc | apply pw_below_drewN | apply below_drew1) | exact HB.out)⟩⟩
       case rest =>
        clear HC42
        try clear c1
        try clear c2
        try clear p2
        try clear c3
        try clear c4
        try clear c8
        try clear c9
        try clear c11
        try clear c17
        try clear c18
        try clear c18b0
        try clear c18b1
        try clear c19
        try clear c19b0
        try clear c23
        try clear c23b0
        try clear c23b1
        try clear c32
        try clear c32b0
        try clear c32b1
        try clear c38
        try clear c40
        try clear c40b0
        try clear c40b1
        try clear c41
        try clear c43
        try clear c43b0
        try clear c43b1
        try clear p2
        obtain ⟨kq, x15_41, rfl, HA, HJ41, HO_9, HO_12, HB⟩ := hcut
        cases kq with
        | zero => exact absurd HA.out (by simp [endonymlaw4_TrieSame.j2])
        | succ kj41 =>
         have H := HA.out
         clear HA
         simp only [endonymlaw4_TrieSame.j2] at H
         replace H := Option.bind_eq_some_iff.mp H
         obtain ⟨t279, A510, H⟩ := H
         replace H : (if (t279 == x15_41) = true then ((trie_Trie_Same.f kj41 t266 t261).bind fun t280 => (if (t280 == x15_41) = true then ((trie_Trie_Same.f kj41 t261 t261).bind fun t281 => (if t281 = true then ((trie_Trie_Same.f kj41 t261 ([] : List (S57))).bind fun t282 => (some (!t282))) else (some false))) else (some false))) else (some false)) = some r := H
         have A51 := Aside0.mk A510
         clear A510
         by_cases c52 : (t279 == x15_41) = true
         ·rw [if_pos c52] at H
          have c52b0 : (t279 == x15_41) = true := c52
          (try (have c52b1 : decide (t279 = x15_41) = true := by simpa using c52))
          (try (have c52b2 : (t279 == x15_41) = true := by simpa using c52))
          clear c52
          replace H := Option.bind_eq_some_iff.mp H
          obtain ⟨t280, A530, H⟩ := H
          replace H : (if (t280 == x15_41) = true then ((trie_Trie_Same.f kj41 t261 t261).bind fun t281 => (if t281 = true then ((trie_Trie_Same.f kj41 t261 ([] : List (S57))).bind fun t282 => (some (!t282))) else (some false))) else (some false)) = some r := H
          have A53 := Aside0.mk A530
          clear A530
          by_cases c54 : (t280 == x15_41) = true
          ·rw [if_pos c54] at H
           have c54b0 : (t280 == x15_41) = true := c54
           (try (have c54b1 : decide (t280 = x15_41) = true := by simpa using c54))
           (try (have c54b2 : (t280 == x15_41) = true := by simpa using c54))
           clear c54
           replace H := Option.bind_eq_some_iff.mp H
           obtain ⟨t281, A550, H⟩ := H
           replace H : (if t281 = true then ((trie_Trie_Same.f kj41 t261 ([] : List (S57))).bind fun t282 => (some (!t282))) else (some false)) = some r := H
           have A55 := Aside0.mk A550
           clear A550
           by_cases c56 : t281 = true
           ·subst c56
            have H1 : ((trie_Trie_Same.f kj41 t261 ([] : List (S57))).bind fun t282 => (some (!t282))) = some r := by rw [if_pos rfl] at H; exact H
            clear H
            have H := H1
            clear H1
            replace H := Option.bind_eq_some_iff.mp H
            obtain ⟨t282, A570, H⟩ := H
            replace H : (some (!t282)) = some r := H
            have A57 := Aside0.mk A570
            clear A570
            obtain rfl := Option.some.inj H
            obtain ⟨Ao58, co58, eo58⟩ := Kd.P_slice HO_9.out
            subst eo58
            obtain ⟨Ao59, co59, eo59⟩ := Kd.P_slice HO_12.out
            subst eo59
            go_wp2_with (first | ((with_reducible refine gate_callee (f := 17) rfl ?_); refine goesL_ (some 78) rfl rfl Try.func17 (by kernel_rfl) rfl #[.pointer Ao58, .pointer Ao59] rfl (by (try simp only [List.map_toArray, List.map_cons, List.map_nil]); first | done | rfl | (simp only [List.length_drop, List.length_take]; rfl)) ?_; (with_reducible refine (trie_Trie_Same.calls kj41 _ t261 _ t266 t279 _ ?side1 ?side2 A51.out).mono ?_); (case side1 => repeat (first | exact (Kd.P_reads' HO_9.out).2.2 | (with_reducible refine Kd.PC_alloc ?_ _) | (with_reducible refine Kd.PC_drewN ?_ _) | (with_reducible refine Kd.PC_drew ?_))); (case side2 => repeat (first | exact (Kd.P_reads' HO_12.out).2.2 | (with_reducible refine Kd.PC_alloc ?_ _) | (with_reducible refine Kd.PC_drewN ?_ _) | (with_reducible refine Kd.PC_drew ?_))); rintro e w' ⟨rfl, ⟨nd, rfl⟩⟩; refine ⟨_, rfl, ?_⟩) | (go_at_call 17; (with_reducible refine (trie_Trie_Same.calls kj41 _ t266 _ t261 t280 _ ?side1 ?side2 A53.out).mono ?_); (case side1 => repeat (first | exact (Kd.P_reads' HO_12.out).2.2 | (with_reducible refine Kd.PC_alloc ?_ _) | (with_reducible refine Kd.PC_drewN ?_ _) | (with_reducible refine Kd.PC_drew ?_))); (case side2 => repeat (first | exact (Kd.P_reads' HO_9.out).2.2 | (with_reducible refine Kd.PC_alloc ?_ _) | (with_reducible refine Kd.PC_drewN ?_ _) | (with_reducible refine Kd.PC_drew ?_))); rintro e w' ⟨rfl, ⟨nd, rfl⟩⟩) | (go_at_call 17; (with_reducible refine (trie_Trie_Same.calls kj41 _ t261 _ t261 true _ ?side1 ?side2 A55.out).mono ?_); (case side1 => repeat (first | exact (Kd.P_reads' HO_9.out).2.2 | (with_reducible refine Kd.PC_alloc ?_ _) | (with_reducible refine Kd.PC_drewN ?_ _) | (with_reducible refine Kd.PC_drew ?_))); (case side2 => repeat (first | exact (Kd.P_reads' HO_9.out).2.2 | (with_reducible refine Kd.PC_alloc ?_ _) | (with_reducible refine Kd.PC_drewN ?_ _) | (with_reducible refine Kd.PC_drew ?_))); rintro e w' ⟨rfl, ⟨nd, rfl⟩⟩) | (go_at_call 17; (refine (trie_Trie_Same.calls kj41 _ t261 _ ([] : List (S57)) t282 _ ?side1 ?side2 A57.out).mono ?_); (case side1 => repeat (first | exact (Kd.P_reads' HO_9.out).2.2 | (with_reducible refine Kd.PC_alloc ?_ _) | (with_reducible refine Kd.PC_drewN ?_ _) | (with_reducible refine Kd.PC_drew ?_))); (case side2 => exact Kd.PC_nil _ _); rintro e w' ⟨rfl, ⟨nd, rfl⟩⟩))
            go_ret
            exact ⟨by first | rfl | (simp [errW_none, errW_some] <;> rfl) | (simp [*, errW_none, errW_some] <;> rfl), by repeat (first | (with_reducible first | exact HB.out | apply below_alloc | apply pw_below_drewN | apply below_drew1) | exact HB.out)⟩
           ·replace c56 := Bool.eq_false_iff.mpr c56
            subst c56
            have H1 : (some false) = some r := by rw [if_neg (show ¬ (false = true) by decide)] at H; exact H
            clear H
            have H := H1
            clear H1
            obtain rfl := Option.some.inj H
            obtain ⟨Ao60, co60, eo60⟩ := Kd.P_slice HO_9.out
            subst eo60
            obtain ⟨Ao61, co61, eo61⟩ := Kd.P_slice HO_12.out
            subst eo61
            go_wp2_with (first | ((with_reducible refine gate_callee (f := 17) rfl ?_); refine goesL_ (some 78) rfl rfl Try.func17 (by kernel_rfl) rfl #[.pointer Ao60, .pointer Ao61] rfl (by (try simp only [List.map_toArray, List.map_cons, List.map_nil]); first | done | rfl | (simp only [List.length_drop, List.length_take]; rfl)) ?_; (with_reducible refine (trie_Trie_Same.calls kj41 _ t261 _ t266 t279 _ ?side1 ?side2 A51.out).mono ?_); (case side1 => repeat (first | exact (Kd.P_reads' HO_9.out).2.2 | (with_reducible refine Kd.PC_alloc ?_ _) | (with_reducible refine Kd.PC_drewN ?_ _) | (with_reducible refine Kd.PC_drew ?_))); (case side2 => repeat (first | exact (Kd.P_reads' HO_12.out).2.2 | (with_reducible refine Kd.PC_alloc ?_ _) | (with_reducible refine Kd.PC_drewN ?_ _) | (with_reducible refine Kd.PC_drew ?_))); rintro e w' ⟨rfl, ⟨nd, rfl⟩⟩; refine ⟨_, rfl, ?_⟩) | (go_at_call 17; (with_reducible refine (trie_Trie_Same.calls kj41 _ t266 _ t261 t280 _ ?side1 ?side2 A53.out).mono ?_); (case side1 => repeat (first | exact (Kd.P_reads' HO_12.out).2.2 | (with_reducible refine Kd.PC_alloc ?_ _) | (with_reducible refine Kd.PC_drewN ?_ _) | (with_reducible refine Kd.PC_drew ?_))); (case side2 => repeat (first | exact (Kd.P_reads' HO_9.out).2.2 | (with_reducible refine Kd.PC_alloc ?_ _) | (with_reducible refine Kd.PC_drewN ?_ _) | (with_reducible refine Kd.PC_drew ?_))); rintro e w' ⟨rfl, ⟨nd, rfl⟩⟩) | (go_at_call 17; (with_reducible refine (trie_Trie_Same.calls kj41 _ t261 _ t261 false _ ?side1 ?side2 A55.out).mono ?_); (case side1 => repeat (first | exact (Kd.P_reads' HO_9.out).2.2 | (with_reducible refine Kd.PC_alloc ?_ _) | (with_reducible refine Kd.PC_drewN ?_ _) | (with_reducible refine Kd.PC_drew ?_))); (case side2 => repeat (first | exact (Kd.P_reads' HO_9.out).2.2 | (with_reducible refine Kd.PC_alloc ?_ _) | (with_reducible refine Kd.PC_drewN ?_ _) | (with_reducible refine Kd.PC_drew ?_))); rintro e w' ⟨rfl, ⟨nd, rfl⟩⟩))
            go_ret
            exact ⟨by first | rfl | (simp [errW_none, errW_some] <;> rfl) | (simp [*, errW_none, errW_some] <;> rfl), by repeat (first | (with_reducible first | exact HB.out | apply below_alloc | apply pw_below_drewN | apply below_drew1) | exact HB.out)⟩
          ·rw [if_neg c54] at H
           have c54b0 : (t280 == x15_41) = false := by simpa using c54
           (try (have c54b1 : decide (t280 = x15_41) = false := by simpa using c54))
           (try (have c54b2 : (t280 == x15_41) = false := by simpa using c54))
           (try (have c54b3 : ¬ (t280 = x15_41) := by simpa using c54))
           clear c54
           obtain rfl := Option.some.inj H
           obtain ⟨Ao62, co62, eo62⟩ := Kd.P_slice HO_9.out
           subst eo62
           obtain ⟨Ao63, co63, eo63⟩ := Kd.P_slice HO_12.out
           subst eo63
           go_wp2_with (first | ((with_reducible refine gate_callee (f := 17) rfl ?_); refine goesL_ (some 78) rfl rfl Try.func17 (by kernel_rfl) rfl #[.pointer Ao62, .pointer Ao63] rfl (by (try simp only [List.map_toArray, List.map_cons, List.map_nil]); first | done | rfl | (simp only [List.length_drop, List.length_take]; rfl)) ?_; (with_reducible refine (trie_Trie_Same.calls kj41 _ t261 _ t266 t279 _ ?side1 ?side2 A51.out).mono ?_); (case side1 => repeat (first | exact (Kd.P_reads' HO_9.out).2.2 | (with_reducible refine Kd.PC_alloc ?_ _) | (with_reducible refine Kd.PC_drewN ?_ _) | (with_reducible refine Kd.PC_drew ?_))); (case side2 => repeat (first | exact (Kd.P_reads' HO_12.out).2.2 | (with_reducible refine Kd.PC_alloc ?_ _) | (with_reducible refine Kd.PC_drewN ?_ _) | (with_reducible refine Kd.PC_drew ?_))); rintro e w' ⟨rfl, ⟨nd, rfl⟩⟩; refine ⟨_, rfl, ?_⟩) | (go_at_call 17; (with_reducible refine (trie_Trie_Same.calls kj41 _ t266 _ t261 t280 _ ?side1 ?side2 A53.out).mono ?_); (case side1 => repeat (first | exact (Kd.P_reads' HO_12.out).2.2 | (with_reducible refine Kd.PC_alloc ?_ _) | (with_reducible refine Kd.PC_drewN ?_ _) | (with_reducible refine Kd.PC_drew ?_))); (case side2 => repeat (first | exact (Kd.P_reads' HO_9.out).2.2 | (with_reducible refine Kd.PC_alloc ?_ _) | (with_reducible refine Kd.PC_drewN ?_ _) | (with_reducible refine Kd.PC_drew ?_))); rintro e w' ⟨rfl, ⟨nd, rfl⟩⟩))
           go_ret
           exact ⟨by first | rfl | (simp [errW_none, errW_some] <;> rfl) | (simp [*, errW_none, errW_some] <;> rfl), by repeat (first | (with_reducible first | exact HB.out | apply below_alloc | apply pw_below_drewN | apply below_drew1) | exact HB.out)⟩
         ·rw [if_neg c52] at H
          have c52b0 : (t279 == x15_41) = false := by simpa using c52
          (try (have c52b1 : decide (t279 = x15_41) = false := by simpa using c52))
          (try (have c52b2 : (t279 == x15_41) = false := by simpa using c52))
          (try (have c52b3 : ¬ (t279 = x15_41) := by simpa using c52))
          clear c52
          obtain rfl := Option.some.inj H
          obtain ⟨Ao64, co64, eo64⟩ := Kd.P_slice HO_9.out
          subst eo64
          obtain ⟨Ao65, co65, eo65⟩ := Kd.P_slice HO_12.out
          subst eo65
          go_wp2_with (first | ((with_reducible refine gate_callee (f := 17) rfl ?_); refine goesL_ (some 78) rfl rfl Try.func17 (by kernel_rfl) rfl #[.pointer Ao64, .pointer Ao65] rfl (by (try simp only [List.map_toArray, List.map_cons, List.map_nil]); first | done | rfl | (simp only [List.length_drop, List.length_take]; rfl)) ?_; (with_reducible refine (trie_Trie_Same.calls kj41 _ t261 _ t266 t279 _ ?side1 ?side2 A51.out).mono ?_); (case side1 => repeat (first | exact (Kd.P_reads' HO_9.out).2.2 | (with_reducible refine Kd.PC_alloc ?_ _) | (with_reducible refine Kd.PC_drewN ?_ _) | (with_reducible refine Kd.PC_drew ?_))); (case side2 => repeat (first | exact (Kd.P_reads' HO_12.out).2.2 | (with_reducible refine Kd.PC_alloc ?_ _) | (with_reducible refine Kd.PC_drewN ?_ _) | (with_reducible refine Kd.PC_drew ?_))); rintro e w' ⟨rfl, ⟨nd, rfl⟩⟩; refine ⟨_, rfl, ?_⟩))
          go_ret
          exact ⟨by first | rfl | (simp [errW_none, errW_some] <;> rfl) | (simp [*, errW_none, errW_some] <;> rfl), by repeat (first | (with_reducible first | exact HB.out | apply below_alloc | apply pw_below_drewN | apply below_drew1) | exact HB.out)⟩

/-- THE ONE PURE STATEMENT of endonymlaw4_TrieSame: yours. -/
def endonymlaw4_TrieSame.Pure : Prop := ∀ (l0 : List (S35)) (a1 : Int) (l2 : List (S35)) (a3 : Int), l0.length ≤ maxLen → l0.length * 24 ≤ 140737488351232 → (∀ x ∈ l0, S35.wf x) → (Lit.int .i64 a1).wf = true → l2.length ≤ maxLen → l2.length * 24 ≤ 140737488351232 → (∀ x ∈ l2, S35.wf x) → (Lit.int .i64 a3).wf = true → ∃ k, endonymlaw4_TrieSame.f k l0 a1 l2 a3 = some true
theorem endonymlaw4_TrieSame.walk (P : endonymlaw4_TrieSame.Pure) (a0 : Option Addr) (len0 cap0 : Nat) (l0 : List (S35)) (a1 : Int) (a2 : Option Addr) (len2 cap2 : Nat) (l2 : List (S35)) (a3 : Int) (w : World) (w0 : l0.length = len0 ∧ len0 ≤ cap0 ∧ Kd.C k35 w a0 len0 l0 ∧ l0.length * 24 ≤ 140737488351232 ∧ ∀ x ∈ l0, S35.wf x) (w1 : (Lit.int .i64 a1).wf = true) (w2 : l2.length = len2 ∧ len2 ≤ cap2 ∧ Kd.C k35 w a2 len2 l2 ∧ l2.length * 24 ≤ 140737488351232 ∧ ∀ x ∈ l2, S35.wf x) (w3 : (Lit.int .i64 a3).wf = true) :
  Calls Try.prog 4 #[.slice a0 len0 cap0, .int .i64 a1, .slice a2 len2 cap2, .int .i64 a3] w fun e w' => e = .returned (.bool true) ∧ Below w.heap.size w w' := by
 obtain ⟨rfl, hc0, hr0, y0, hw0⟩ := w0
 have hm0 : l0.length ≤ maxLen := hr0.2.1
 obtain ⟨rfl, hc2, hr2, y2, hw2⟩ := w2
 have hm2 : l2.length ≤ maxLen := hr2.2.1
 obtain ⟨k, h⟩ := P l0 a1 l2 a3 hm0 y0 hw0 w1 hm2 y2 hw2 w3
 refine (endonymlaw4_TrieSame.calls k _ _ l0 a1 _ _ l2 a3 true w hr0 hc0 hr2 hc2 h).mono ?_
 rintro e w' ⟨rfl, hd⟩
 exact ⟨rfl, hd⟩

end Go.Proofs.Ytiaodapgankjnaa.Q
