/- Bytes cut into parts anyhow have one sum and join to themselves (WireSums). -/
import Derived.Test.YtgjmollnjlkjhaaQx7
import Derived.Test.YtgjmollnjlkjhaaQx8
import Derived.Test.YtgjmollnjlkjhaaSumLaw
import Derived.Test.YtgjmollnjlkjhaaJoinLaw
namespace Go.Proofs.Ytgjmollnjlkjhaa.Pure
open Go Go.RowKit Go.Proofs.Ytgjmollnjlkjhaa.Q Go.Proofs.YtgjmollnjlkjhaaW.PrintWords Go.Proofs.YtgjmollnjlkjhaaW.PrintLast Go.Proofs.YtgjmollnjlkjhaaW.PrintMore Go.Proofs.Ytgjmollnjlkjhaa.Base Go.Proofs.Ytgjmollnjlkjhaa.Crc Go.Proofs.Ytgjmollnjlkjhaa.SumLaw Go.Proofs.Ytgjmollnjlkjhaa.JoinLaw
set_option linter.unusedVariables false

theorem rsum_l1 {R : Int} (x0 : List Int) (x4 : Int) : ∀ (d : Nat) (j : Int) (r : Nat), r < 4294967296 → 0 ≤ j → j + d = 8 →
    Ev (fun k => endonymref1_Sum.l0 k x0 ((sn d r : Nat) : Int) (wrap64 (x4 + 1))) R → Ev (fun k => endonymref1_Sum.l1 k x0 (r : Int) x4 j) R := by
  intro d
  induction d with
  | zero =>
    intro j r hr hj0 hj h
    refine Ev.step (fun k => ?_) h
    simp only [endonymref1_Sum.l1]
    rw [if_neg (by omega)]
    rfl
  | succ d ih =>
    intro j r hr hj0 hj h
    refine Ev.step (fun k => ?_) (ih (j + 1) (s1 r) (s1_lt hr) (by omega) (by omega) h)
    simp only [endonymref1_Sum.l1]
    rw [if_pos (by omega), u32and1 r hr, w64 (j + 1) (by omega) (by omega)]
    unfold s1
    by_cases hp : r % 2 = 1
    · rw [if_pos (by omega), if_pos hp]
      have := u32_xor_nat (r / 2) P (by omega) (by decide)
      rw [← this]
      rfl
    · rw [if_neg (by omega), if_neg hp]
      rfl
theorem rsum_l0 (L : List Nat) (hL : ∀ c ∈ L, c < 256) (hn : L.length ≤ 9223372036854775806) : ∀ (d i r : Nat), r < 4294967296 → i + d = L.length →
    Ev (fun k => endonymref1_Sum.l0 k (ints L) (r : Int) (i : Int)) ((crc r (L.drop i) ^^^ 4294967295 : Nat) : Int) := by
  intro d
  induction d with
  | zero =>
    intro i r hr hi
    refine Ev.step (fun k => ?_) (Ev.now _)
    simp only [endonymref1_Sum.l0]
    rw [if_neg (by rw [ints_length]; omega), List.drop_of_length_le (by omega)]
    exact congrArg some (u32_xor_nat r 4294967295 hr (by decide))
  | succ d ih =>
    intro i r hr hi
    have hlt : i < L.length := by omega
    have hc : L.getD i 0 < 256 := getD_lt hL (by decide) i
    have hd : L.drop i = L.getD i 0 :: L.drop (i + 1) := by
      rw [List.drop_eq_getElem_cons hlt, List.getD_eq_getElem?_getD, List.getElem?_eq_getElem hlt]; rfl
    have hx : r ^^^ L.getD i 0 < 4294967296 := Nat.xor_lt_two_pow (n := 32) hr (by omega)
    rw [hd, crc_cons]
    have h1 := ih (i + 1) (sn 8 (r ^^^ L.getD i 0)) (sn_lt hx) (by omega)
    have h2 : Ev (fun k => endonymref1_Sum.l0 k (ints L) ((sn 8 (r ^^^ L.getD i 0) : Nat) : Int) (wrap64 ((i : Int) + 1))) ((crc (sn 8 (r ^^^ L.getD i 0)) (L.drop (i + 1)) ^^^ 4294967295 : Nat) : Int) := by
      rw [w64 ((i : Int) + 1) (by omega) (by omega)]
      exact h1
    refine Ev.step (fun k => ?_) (rsum_l1 (ints L) (i : Int) 8 0 (r ^^^ L.getD i 0) hx (by omega) (by omega) h2)
    simp only [endonymref1_Sum.l0]
    rw [if_pos (by rw [ints_length]; omega), if_pos (by omega), rd_ints]
    have e1 : ((L.getD i 0 : Nat) : Int) % 4294967296 = ((L.getD i 0 : Nat) : Int) := by omega
    rw [e1, u32_xor_nat r (L.getD i 0) hr (by omega)]
theorem rsum_is (L : List Nat) (hL : ∀ c ∈ L, c < 256) (hn : L.length ≤ 9223372036854775806) : Ev (fun k => endonymref1_Sum.f k (ints L)) (total L : Int) := by
  have := rsum_l0 L hL hn L.length 0 4294967295 (by decide) (by omega)
  simpa [endonymref1_Sum.f, total] using this
theorem cut3 (a b c : List Int) : ((a ++ (b ++ c)).take (a.length + b.length)).drop a.length = b := by
  rw [← List.append_assoc, ← List.length_append, List.take_left, List.drop_left]
theorem part_cut (P : List (List Nat)) (i : Nat) (h : i < P.length) : ((ints P.flatten).take ((P.take i).flatten.length + (P.getD i []).length)).drop (P.take i).flatten.length = ints (P.getD i []) := by
  have h1 := flatten_take P i h
  have h2 : P.flatten = (P.take (i + 1)).flatten ++ (P.drop (i + 1)).flatten := by rw [← List.flatten_append, List.take_append_drop]
  rw [h1, List.append_assoc] at h2
  have h3 := cut3 (ints (P.take i).flatten) (ints (P.getD i [])) (ints (P.drop (i + 1)).flatten)
  rw [ints_length, ints_length] at h3
  rw [h2, jints_append, jints_append]
  exact h3
theorem sums_l2 (P : List (List Nat)) (hn : P.length ≤ 41) (hB : P.flatten.length ≤ 140737488351232) (G : List Int) (hG : G.length = P.flatten.length + 1) : ∀ (d i : Nat), i + d = P.length →
    Ev (fun k => endonymlaw1_WireSums.l2 k (ints P.flatten) (P.map ints) ((P.take i).flatten.length : Int) (ints P.flatten) G (i : Int)) true := by
  intro d
  induction d with
  | zero =>
    intro i hi
    refine Ev.step (fun k => ?_) (Ev.now _)
    simp only [endonymlaw1_WireSums.l2]
    rw [if_neg (by rw [List.length_map]; omega), ints_length, hG, w64 _ (by omega) (by omega), if_pos (by omega)]
    simp
  | succ d ih =>
    intro i hi
    have hlt : i < P.length := by omega
    have h1 := flatten_take P i hlt
    have h2 := flatten_le P (i + 1)
    rw [h1, List.length_append] at h2
    have h3 := ih (i + 1) (by omega)
    rw [h1, List.length_append] at h3
    have hc := part_cut P i hlt
    have hw : wrap64 (((P.take i).flatten.length : Int) + ((P.getD i []).length : Int)) = (((P.take i).flatten.length + (P.getD i []).length : Nat) : Int) := by rw [w64 _ (by omega) (by omega)]; omega
    have hwh : endonymlaw1_whole.f (ints (P.getD i [])) (ints (P.getD i [])) = some true := by
      unfold endonymlaw1_whole.f
      rw [if_pos ⟨rfl, by rw [ints_length]; omega⟩]
    refine Ev.step (fun k => ?_) h3
    simp only [endonymlaw1_WireSums.l2]
    rw [if_pos (by rw [List.length_map]; omega), if_pos (by omega), if_pos (by omega), jrd_parts, ints_length, hw, if_pos (by omega), if_pos (by rw [ints_length]; omega), Int.toNat_natCast, Int.toNat_natCast, hc, hwh, Option.bind_some, if_pos rfl, w64 ((i : Int) + 1) (by omega) (by omega)]
    rfl
theorem sums_l1 (P : List (List Nat)) (hn : P.length ≤ 41) (hB : P.flatten.length ≤ 140737488351232) : ∀ (d i : Nat) (J : List Int), J.length = P.flatten.length → i + d = P.flatten.length →
    Ev (fun k => endonymlaw1_WireSums.l1 k (ints P.flatten) (P.map ints) J (ints P.flatten) (i : Int)) true := by
  intro d
  induction d with
  | zero =>
    intro i J hJ hi
    refine Ev.step (fun k => ?_) (sums_l2 P hn hB (J ++ [9]) (by simp [hJ]) P.length 0 (by omega))
    simp only [endonymlaw1_WireSums.l1]
    rw [if_neg (by omega), if_pos (by omega)]
    rfl
  | succ d ih =>
    intro i J hJ hi
    refine Ev.step (fun k => ?_) (ih (i + 1) (J.set i ((rd J (i : Int) + 1) % 256)) (by simp [hJ]) (by omega))
    simp only [endonymlaw1_WireSums.l1]
    rw [if_pos (by omega), if_pos (by omega), Int.toNat_natCast, w64 ((i : Int) + 1) (by omega) (by omega)]
    rfl
theorem sums_end (B : List Nat) (hL : ∀ c ∈ B, c < 256) (hB : B.length ≤ 140737488351232) (x1 : List Int) (P : List (List Nat)) (f : Nat) (x7 : Int) (hP : P.flatten = B.take f) (hf : f ≤ B.length) (hn : P.length ≤ 40) :
    Ev (fun k => endonymlaw1_WireSums.j1 k (ints B) x1 (P.map ints) (f : Int) x7 false) true := by
  have hQ : (P ++ [B.drop f]).flatten = B := by rw [List.flatten_append, hP]; simp
  have hQn : (P ++ [B.drop f]).length ≤ 41 := by simp; omega
  have hmem : ∀ L ∈ P ++ [B.drop f], (∀ c ∈ L, c < 256) ∧ L.length ≤ 9223372036854775806 := by
    intro L hl
    have hsub : ∀ c ∈ L, c ∈ B := fun c hc => by rw [← hQ]; exact List.mem_flatten.2 ⟨L, hl, hc⟩
    have hlen : L.length ≤ B.length := by rw [← hQ]; exact (List.sublist_flatten_of_mem hl).length_le
    exact ⟨fun c hc => hL c (hsub c hc), by omega⟩
  obtain ⟨k1, g1⟩ := sum_parts _ hmem (by omega)
  obtain ⟨k2, g2⟩ := joined_is _ (show (P ++ [B.drop f]).length ≤ 9223372036854775806 by omega) (by rw [hQ]; omega)
  obtain ⟨k3, g3⟩ := rsum_is B hL (by omega)
  obtain ⟨k4, g4⟩ := sums_l1 (P ++ [B.drop f]) hQn (by rw [hQ]; omega) B.length 0 (ints B) (by rw [ints_length, hQ]) (by rw [hQ]; omega)
  rw [hQ] at g1 g2 g4
  refine ⟨k1 + k2 + k3 + k4 + 2, fun k hk => ?_⟩
  obtain ⟨q, rfl⟩ : ∃ q, k = q + 2 := ⟨k - 2, by omega⟩
  have e1 : wire_Sum.f (q + 1) ((P ++ [B.drop f]).map ints) = _ := g1 (q + 1) (by omega)
  have e2 : wire_Joined.f (q + 1) ((P ++ [B.drop f]).map ints) = _ := g2 (q + 1) (by omega)
  have e3 : endonymref1_Sum.f (q + 1) (ints B) = _ := g3 (q + 1) (by omega)
  have e4 : endonymlaw1_WireSums.l1 q (ints B) ((P ++ [B.drop f]).map ints) (ints B) (ints B) 0 = _ := g4 q (by omega)
  have hr : endonymlaw1_roomy.f ((ints B).drop f) = some (ints (B.drop f)) := by
    have hd : (ints B).drop f = ints (B.drop f) := by simp [ints, List.map_drop]
    rw [hd]
    unfold endonymlaw1_roomy.f
    rw [if_pos (by rw [ints_length, List.length_drop]; omega)]
  have hm : P.map ints ++ [ints (B.drop f)] = (P ++ [B.drop f]).map ints := by simp
  have hT : endonymlaw1_told.f = some true := rfl
  show endonymlaw1_WireSums.j1 (q + 1 + 1) (ints B) x1 (P.map ints) (f : Int) x7 false = some true
  rw [endonymlaw1_WireSums.j1, if_neg (by decide), if_pos (by omega), if_pos (by rw [ints_length]; omega), Int.toNat_natCast, hr, Option.bind_some, if_pos (by rw [List.length_map]; omega), Option.bind_some, hm, e1, Option.bind_some, e2, Option.bind_some, Option.bind_some, hT, Option.bind_some, if_pos rfl, e3, Option.bind_some, if_pos rfl, bne_self_eq_false, endonymlaw1_WireSums.j2, if_neg (by decide), e4]
theorem sums_l0 (B : List Nat) (hL : ∀ c ∈ B, c < 256) (hB : B.length ≤ 140737488351232) (x1 : List Int) : ∀ (d i f : Nat) (P : List (List Nat)), i + d = 40 → P.flatten = B.take f → f ≤ B.length → P.length = i →
    Ev (fun k => endonymlaw1_WireSums.l0 k (ints B) x1 (P.map ints) (f : Int) (i : Int)) true := by
  intro d
  induction d with
  | zero =>
    intro i f P hi hP hf hn
    refine Ev.step (fun k => ?_) (sums_end B hL hB x1 P f (i : Int) hP hf (by omega))
    simp only [endonymlaw1_WireSums.l0]
    have hd : decide ((i : Int) < 40) = false := decide_eq_false (by omega)
    rw [hd]
    exact ite_self _
  | succ d ih =>
    intro i f P hi hP hf hn
    by_cases hx : (i : Int) < (x1.length : Int)
    · have hr0 := i64_and63 (rd x1 (i : Int))
      obtain ⟨t, ht, ht2, ht3⟩ : ∃ t : Nat, f ≤ t ∧ t ≤ B.length ∧ ((wrap64 ((f : Int) + bits .and .i64 (rd x1 (i : Int)) 63) > (B.length : Int) ∧ t = B.length) ∨ (¬ wrap64 ((f : Int) + bits .and .i64 (rd x1 (i : Int)) 63) > (B.length : Int) ∧ wrap64 ((f : Int) + bits .and .i64 (rd x1 (i : Int)) 63) = (t : Int))) := by
        have hw : wrap64 ((f : Int) + bits .and .i64 (rd x1 (i : Int)) 63) = (f : Int) + rd x1 (i : Int) % 64 := by rw [hr0, w64 _ (by omega) (by omega)]
        rw [hw]
        by_cases hc : (f : Int) + rd x1 (i : Int) % 64 > (B.length : Int)
        · exact ⟨B.length, hf, Nat.le_refl _, .inl ⟨hc, rfl⟩⟩
        · exact ⟨((f : Int) + rd x1 (i : Int) % 64).toNat, by omega, by omega, .inr ⟨hc, by omega⟩⟩
      have hQ : (P ++ [(B.take t).drop f]).flatten = B.take t := by
        rw [List.flatten_append, hP]
        have e : B.take f = (B.take t).take f := by rw [List.take_take, Nat.min_eq_left ht]
        rw [e]
        simp
      have h1 := ih (i + 1) t (P ++ [(B.take t).drop f]) (by omega) hQ ht2 (by simp [hn])
      have hm : P.map ints ++ [ints ((B.take t).drop f)] = (P ++ [(B.take t).drop f]).map ints := by simp
      have hr : endonymlaw1_roomy.f (((ints B).take t).drop f) = some (ints ((B.take t).drop f)) := by
        have hd : ((ints B).take t).drop f = ints ((B.take t).drop f) := by simp [ints, List.map_drop, List.map_take]
        rw [hd]
        unfold endonymlaw1_roomy.f
        rw [if_pos (by rw [ints_length, List.length_drop, List.length_take]; omega)]
      have h2 : Ev (fun k => endonymlaw1_WireSums.j1 k (ints B) x1 (P.map ints) (f : Int) (i : Int) true) true := by
        refine Ev.step (fun k => ?_) h1
        rw [endonymlaw1_WireSums.j1, if_pos rfl, if_pos (by omega), if_pos hx, ints_length]
        rcases ht3 with ⟨hc, rfl⟩ | ⟨hc, he⟩
        · rw [if_pos hc, if_pos (by omega), if_pos (by omega), if_pos (Int.le_refl _), Int.toNat_natCast, Int.toNat_natCast, hr, Option.bind_some, if_pos (by rw [List.length_map]; omega), hm, w64 ((i : Int) + 1) (by omega) (by omega)]
          rfl
        · rw [if_neg hc, if_pos (by omega), he, if_pos (by omega), if_pos (by omega), Int.toNat_natCast, Int.toNat_natCast, hr, Option.bind_some, if_pos (by rw [List.length_map]; omega), hm, w64 ((i : Int) + 1) (by omega) (by omega)]
          rfl
      refine Ev.step (fun k => ?_) h2
      simp only [endonymlaw1_WireSums.l0]
      have hd : decide ((i : Int) < 40) = true := decide_eq_true (by omega)
      rw [if_pos hx, hd]
    · refine Ev.step (fun k => ?_) (sums_end B hL hB x1 P f (i : Int) hP hf (by omega))
      simp only [endonymlaw1_WireSums.l0]
      rw [if_neg hx]
theorem WireSums : endonymlaw1_WireSums.Pure := by
  intro l0 l1 _ hlen hl _ _ _
  obtain ⟨B, rfl, hB⟩ := nats_of_wf hl
  rw [ints_length] at hlen
  obtain ⟨k, g⟩ := sums_l0 B hB (by omega) l1 40 0 0 [] (by omega) (by simp) (by omega) rfl
  exact ⟨k, g k (Nat.le_refl _)⟩
end Go.Proofs.Ytgjmollnjlkjhaa.Pure
