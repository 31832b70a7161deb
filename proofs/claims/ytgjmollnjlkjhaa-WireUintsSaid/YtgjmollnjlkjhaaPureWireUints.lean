/- Uint writes, and ReadUint reads, as the document says, of any number, any bytes and any place: as Go's law asks it (WireUints). -/
import Derived.Test.YtgjmollnjlkjhaaQx3
import Derived.Test.YtgjmollnjlkjhaaWireLaw
namespace Go.Proofs.Ytgjmollnjlkjhaa.Pure
open Go Go.RowKit Go.Proofs.Ytgjmollnjlkjhaa.Q Go.Proofs.YtgjmollnjlkjhaaW.PrintWords Go.Proofs.YtgjmollnjlkjhaaW.PrintLast Go.Proofs.YtgjmollnjlkjhaaW.PrintMore Go.Proofs.Ytgjmollnjlkjhaa.Base Go.Proofs.Ytgjmollnjlkjhaa.WireLaw
set_option linter.unusedVariables false

theorem uints_both (a0 : Int) (h : a0 ≤ 9223372036854775807) : ∃ u : List Int, Ev (fun k => wire_Uint.f k a0) u ∧ Ev (fun k => endonymref1_Uint.f k a0) u := by
  by_cases h0 : a0 < 0
  · exact ⟨[], uint_neg a0 h0, ruint_neg a0 h0⟩
  · obtain ⟨n, rfl⟩ := Int.eq_ofNat_of_zero_le (Int.not_lt.1 h0)
    exact ⟨_, uint_is n (by omega), ruint_is n (by omega)⟩
theorem WireUints : endonymlaw1_WireUints.Pure := by
  intro a0 l1 a2 h0 _ hlen hl h2
  obtain ⟨B, rfl, hB⟩ := nats_of_wf hl
  rw [ints_length] at hlen
  obtain ⟨u, ⟨k1, g1⟩, ⟨k2, g2⟩⟩ := uints_both a0 (bounds_i64 h0).2
  obtain ⟨k3, g3⟩ := read_is B hB (by omega) a2
  obtain ⟨k4, g4⟩ := rread_is B hB (by omega) a2
  exact ⟨k1 + k2 + k3 + k4, (readu B a2).1, (readu B a2).2.1, (readu B a2).2.2, u, g3 _ (by omega), g4 _ (by omega), g1 _ (by omega), g2 _ (by omega)⟩
end Go.Proofs.Ytgjmollnjlkjhaa.Pure
