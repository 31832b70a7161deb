/- What the printed joining of parts comes to. -/
import Derived.Test.YtgjmollnjlkjhaaQx0
import Derived.Test.YtgjmollnjlkjhaaQx7
import Derived.Test.YtgjmollnjlkjhaaBase
namespace Go.Proofs.Ytgjmollnjlkjhaa.JoinLaw
open Go Go.RowKit Go.Proofs.Ytgjmollnjlkjhaa.Q Go.Proofs.YtgjmollnjlkjhaaW.PrintWords Go.Proofs.YtgjmollnjlkjhaaW.PrintLast Go.Proofs.YtgjmollnjlkjhaaW.PrintMore Go.Proofs.Ytgjmollnjlkjhaa.Base
set_option linter.unusedVariables false

theorem jrd_parts (parts : List (List Nat)) (i : Nat) : rd_L1 (parts.map ints) (i : Int) = ints (parts.getD i []) := by
  simp only [rd_L1, Int.toNat_natCast, List.getD_eq_getElem?_getD, List.getElem?_map]
  cases parts[i]? <;> rfl
theorem flatten_take (parts : List (List Nat)) (i : Nat) (h : i < parts.length) : (parts.take (i + 1)).flatten = (parts.take i).flatten ++ parts.getD i [] := by
  rw [List.take_succ_eq_append_getElem h, List.flatten_append, List.getD_eq_getElem?_getD, List.getElem?_eq_getElem h]
  simp
theorem flatten_le (parts : List (List Nat)) (i : Nat) : (parts.take i).flatten.length ≤ parts.flatten.length := by
  have h : parts.flatten = (parts.take i).flatten ++ (parts.drop i).flatten := by rw [← List.flatten_append, List.take_append_drop]
  rw [h, List.length_append]
  omega
theorem jints_append (a b : List Nat) : ints (a ++ b) = ints a ++ ints b := by simp [ints]
theorem joined_l1 (parts : List (List Nat)) (hn : parts.length ≤ 9223372036854775806) (ht : parts.flatten.length < 140737488355328) : ∀ (d i : Nat), i + d = parts.length →
    Ev (fun k => wire_Joined.l1 k (ints (parts.take i).flatten) (parts.map ints) (parts.length : Int) (i : Int)) (ints parts.flatten) := by
  intro d
  induction d with
  | zero =>
    intro i hi
    refine Ev.step (fun k => ?_) (Ev.now _)
    simp only [wire_Joined.l1]
    rw [if_neg (by omega), List.take_of_length_le (by omega)]
  | succ d ih =>
    intro i hi
    have hlt : i < parts.length := by omega
    have h1 := flatten_take parts i hlt
    have h2 := flatten_le parts (i + 1)
    rw [h1, List.length_append] at h2
    have h3 := ih (i + 1) (by omega)
    rw [h1, jints_append] at h3
    refine Ev.step (fun k => ?_) h3
    simp only [wire_Joined.l1]
    rw [if_pos (by omega), if_pos (by omega), if_pos (by rw [List.length_map]; omega), jrd_parts, if_pos (by rw [ints_length, ints_length]; omega), w64 _ (by omega) (by omega)]
    rfl
theorem joined_l0 (parts : List (List Nat)) (hn : parts.length ≤ 9223372036854775806) (ht : parts.flatten.length < 140737488355328) : ∀ (d i : Nat), i + d = parts.length →
    Ev (fun k => wire_Joined.l0 k (parts.map ints) ((parts.take i).flatten.length : Int) (parts.map ints) (parts.length : Int) (i : Int)) (ints parts.flatten) := by
  intro d
  induction d with
  | zero =>
    intro i hi
    refine Ev.step (fun k => ?_) (joined_l1 parts hn ht parts.length 0 (by omega))
    simp only [wire_Joined.l0]
    rw [if_neg (by omega), List.take_of_length_le (by omega), if_pos (by omega), if_pos (by omega), List.length_map]
    rfl
  | succ d ih =>
    intro i hi
    have hlt : i < parts.length := by omega
    have h1 := flatten_take parts i hlt
    have h2 := flatten_le parts (i + 1)
    rw [h1, List.length_append] at h2
    have h3 := ih (i + 1) (by omega)
    rw [h1, List.length_append] at h3
    refine Ev.step (fun k => ?_) h3
    simp only [wire_Joined.l0]
    rw [if_pos (by omega), if_pos (by omega), if_pos (by rw [List.length_map]; omega), jrd_parts, ints_length, w64 ((i : Int) + 1) (by omega) (by omega), w64 _ (by omega) (by omega)]
    rfl
theorem joined_is (parts : List (List Nat)) (hn : parts.length ≤ 9223372036854775806) (ht : parts.flatten.length < 140737488355328) : Ev (fun k => wire_Joined.f k (parts.map ints)) (ints parts.flatten) := by
  refine Ev.congr (fun k => ?_) (joined_l0 parts hn ht parts.length 0 (by omega))
  unfold wire_Joined.f
  rw [List.length_map]
  rfl
end Go.Proofs.Ytgjmollnjlkjhaa.JoinLaw
