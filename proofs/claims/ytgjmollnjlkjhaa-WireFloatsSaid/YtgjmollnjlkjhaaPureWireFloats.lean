/- Float writes, and ReadFloat reads, as the document says, of every float (by its bits), any bytes and any place: as Go's law asks it (WireFloats). -/
import Derived.Test.YtgjmollnjlkjhaaQx9
import Derived.Test.YtgjmollnjlkjhaaFloatLaw
namespace Go.Proofs.Ytgjmollnjlkjhaa.Pure
open Go Go.RowKit Go.Proofs.Ytgjmollnjlkjhaa.Q Go.Proofs.YtgjmollnjlkjhaaW.PrintWords Go.Proofs.YtgjmollnjlkjhaaW.PrintLast Go.Proofs.YtgjmollnjlkjhaaW.PrintMore Go.Proofs.Ytgjmollnjlkjhaa.Base Go.Proofs.Ytgjmollnjlkjhaa.WireLaw Go.Proofs.Ytgjmollnjlkjhaa.FloatLaw
set_option linter.unusedVariables false

theorem WireFloats : endonymlaw1_WireFloats.Pure := by
  intro a0 l1 a2 h0 _ hlen hl h2
  obtain ⟨B, rfl, hB⟩ := nats_of_wf hl
  obtain ⟨b0, b1⟩ := bounds_u64 h0
  obtain ⟨u, rfl⟩ := Int.eq_ofNat_of_zero_le b0
  rw [ints_length] at hlen
  obtain ⟨k1, g1⟩ := rrf_is B hB (by omega) a2
  obtain ⟨k2, g2⟩ := float_is u
  obtain ⟨k3, g3⟩ := rfloat_is u (by omega)
  have e1 : endonymref1_ReadFloat.f (k1 + k2 + k3) (ints B) a2 = _ := g1 (k1 + k2 + k3) (by omega)
  have e2 : wire_Float.f (k1 + k2 + k3) u = _ := g2 (k1 + k2 + k3) (by omega)
  have e3 : endonymref1_Float.f (k1 + k2 + k3) (u : Int) = _ := g3 (k1 + k2 + k3) (by omega)
  have e4 : endonymlaw1_roomy.f (ints B) = some (ints B) := by
    unfold endonymlaw1_roomy.f
    rw [if_pos (by rw [ints_length]; omega)]
  have e5 : endonymlaw1_told.f = some true := rfl
  have e6 : api_Float.f (u : Int) = some u := by unfold api_Float.f; rw [Int.toNat_natCast]
  have e7 : endonymref1_Same.f (ints (f8 u)) (ints (f8 u)) = some true := by unfold endonymref1_Same.f; simp
  have e8 : api_Bits.f (readf B a2).1 = some ((readf B a2).1 : Int) := rfl
  refine ⟨k1 + k2 + k3, ?_⟩
  unfold endonymlaw1_WireFloats.f
  rw [e4, Option.bind_some, rf_is B hB a2, Option.bind_some, e1, Option.bind_some, e5, Option.bind_some, if_pos rfl, e6, Option.bind_some, e2, Option.bind_some, e3, Option.bind_some, e7, Option.bind_some, if_pos rfl, e8, Option.bind_some, if_pos rfl, if_pos rfl]
  simp
end Go.Proofs.Ytgjmollnjlkjhaa.Pure
