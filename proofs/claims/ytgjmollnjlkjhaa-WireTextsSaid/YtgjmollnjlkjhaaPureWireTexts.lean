/- Text writes, and ReadText reads, as the document says, of any text, any bytes, any place and any most: as Go's law asks it (WireTexts). -/
import Derived.Test.YtgjmollnjlkjhaaQx5
import Derived.Test.YtgjmollnjlkjhaaTextLaw
namespace Go.Proofs.Ytgjmollnjlkjhaa.Pure
open Go Go.RowKit Go.Proofs.Ytgjmollnjlkjhaa.Q Go.Proofs.YtgjmollnjlkjhaaW.PrintWords Go.Proofs.YtgjmollnjlkjhaaW.PrintLast Go.Proofs.YtgjmollnjlkjhaaW.PrintMore Go.Proofs.Ytgjmollnjlkjhaa.Base Go.Proofs.Ytgjmollnjlkjhaa.WireLaw Go.Proofs.Ytgjmollnjlkjhaa.TextLaw
set_option linter.unusedVariables false

theorem WireTexts : endonymlaw1_WireTexts.Pure := by
  intro a0 l1 a2 a3 hs _ hlen hl h2 h3
  obtain ⟨B, rfl, hB⟩ := nats_of_wf hl
  rw [ints_length] at hlen
  obtain ⟨k1, g1⟩ := text_is a0 hs
  obtain ⟨k2, g2⟩ := rtext_is a0 hs
  obtain ⟨k3, g3⟩ := rt_is B hB (by omega) a2 a3
  obtain ⟨k4, g4⟩ := rrt_is B hB (by omega) a2 a3
  exact ⟨k1 + k2 + k3 + k4, (readt B a2 a3).1, (readt B a2 a3).2.1, (readt B a2 a3).2.2, ints (text a0), g3 _ (by omega), g4 _ (by omega), g1 _ (by omega), g2 _ (by omega)⟩
end Go.Proofs.Ytgjmollnjlkjhaa.Pure
