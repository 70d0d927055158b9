/- The law OctetNames as a walk. No condition but where the error values lie. -/
import Derived.Test.YteahmkhmkalimaaDoorErrTexts
import Derived.Test.YteahmkhmkalimaaDoorOLives
namespace Go.Proofs.YteahmkhmkalimaaDoor
open Go.RowKit

set_option maxRecDepth 100000 in
set_option maxHeartbeats 4000000 in
theorem octetNames_walk (w : World) (hE : ∃ A, ErrsAt w A) :
    Calls Tryd.prog 4 #[] w fun r w' => r = .returned (.bool true) ∧ Ext w w' := by
  obtain ⟨A, hA⟩ := hE
  have HL := Lib.hid (fun W => octetLives_any W)
  have HT := Lib.hid (fun W h => texts_any A W h)
  have HA := Lib.hid hA
  clear hA
  go_enter Tryd.func4, Tryd.ntmps4
  go_wp2_with (first
    | (go_at_call 10; refine (HL.out _).mono ?_; rintro e w1 ⟨rfl, hx1⟩)
    | (go_at_call 21; refine (HT.out _ (HA.out.ext hx1)).mono ?_; rintro e w2 ⟨rfl, hx2⟩))
  go_ret
  exact ⟨rfl, hx1.trans hx2⟩

end Go.Proofs.YteahmkhmkalimaaDoor
