/- The closed law of layer 3, and FaultWords' walk. Condition: where the error values lie, and the library's two variables. -/
import Derived.Test.YtkcgbdoplhgbmaaDoorFTelR
import Derived.Test.YtkcgbdoplhgbmaaDoorFNum
namespace Go.Proofs.YtkcgbdoplhgbmaaDoor
open Go Go.RowKit Go.Extern.Stop Go.Stop Go.Extern

theorem fliv_text : tellF 2 [(true, 2), (false, 5)] = [112, 97, 116, 116, 101, 114, 110, 32, 50, 58, 32, 97, 116, 32, 53, 58, 32, 112, 97, 114, 101, 110, 116, 104, 101, 115, 105, 115] := by
  have e2 : Lib.itoa 2 = [50] := by unfold Lib.itoa; rw [if_neg (by decide)]; exact Lib.decDigits_one (by decide)
  have e5 : Lib.itoa 5 = [53] := by unfold Lib.itoa; rw [if_neg (by decide)]; exact Lib.decDigits_one (by decide)
  show (patB ++ (Lib.itoa 2 ++ colB)) ++ ((atB ++ (Lib.itoa 5 ++ colB)) ++ wrdP 2) = _
  rw [e2, e5]
  rfl

set_option maxRecDepth 100000 in
set_option maxHeartbeats 2000000 in
theorem flives_any (A : Nat → Addr) (w : World) (hE : ErrsAt w A) (hL : LibV w) :
    Calls Tryd.prog 35 #[] w fun e w' => e = .returned (.bool true) ∧ Ext w w' := by
  have v1 := hE.var 1 (by omega)
  simp only [gb, gbs, List.getD_cons_zero, List.getD_cons_succ] at v1
  have HE := Lib.hid hE
  have HL := Lib.hid hL
  have H0 : Hid (FErr w A 2 [] (errV (A 1))) := Lib.hid (.inr ⟨by decide, A 1, rfl, hE.blk 1 (by omega), fun _ _ => rfl, fun h => by omega⟩)
  have HA := Lib.hid (at_any 5 A 2 [] (errV (A 1)) w H0.out)
  clear hE hL
  unfold errV at *
  go_enter Tryd.func35, Tryd.ntmps35
  go_upto_region 2 with (first
    | (go_at_call 47; refine HA.out.mono ?_; rintro e w1 ⟨u, rfl, hx1, hf1⟩; have HX1 := Lib.hid hx1; have HF1 := Lib.hid hf1; clear hx1 hf1)
    | (go_at_call 48; refine (in_any 2 A 2 _ _ _ HF1.out).mono ?_; rintro e w2 ⟨v, rfl, hx2, hf2⟩; have HX2 := Lib.hid (HX1.out.trans hx2); have HF2 := Lib.hid hf2; clear hx2 hf2))
  clear HA H0 HX1 HF1 v1
  have HP := Lib.hid (place_any A 2 _ v w2 HF2.out (HL.out.ext HX2.out).et)
  go_upto_region 3 with (go_at_call 42; refine HP.out.mono ?_; rintro e w3 ⟨rfl, hx3⟩; have HX3 := Lib.hid hx3; clear hx3)
  have HX := Lib.hid (HX2.out.trans HX3.out)
  have HF := Lib.hid (HF2.out.ext HX3.out)
  have HC := Lib.hid (fun (W : World) (hx : Ext w3 W) => (show codeP 2 = 2 from rfl) ▸ code_any A 2 _ v W (HF.out.ext hx) (HE.out.ext (HX.out.trans hx)))
  have HT := Lib.hid (fun (W : World) (hx : Ext w3 W) => fliv_text ▸ (show codeP 2 = 2 from rfl) ▸ tell_any A 2 _ v W (HF.out.ext hx) (HE.out.ext (HX.out.trans hx)) (HL.out.ext (HX.out.trans hx)) (fun x hx => by
    simp only [List.mem_cons, List.not_mem_nil, or_false] at hx
    rcases hx with rfl | rfl <;> exact ⟨by decide, by decide⟩))
  clear HP HF2 HX2 HX3
  have es : strV [112, 97, 116, 116, 101, 114, 110, 32, 50, 58, 32, 97, 116, 32, 53, 58, 32, 112, 97, 114, 101, 110, 116, 104, 101, 115, 105, 115] = .string ⟨#[112, 97, 116, 116, 101, 114, 110, 32, 50, 58, 32, 97, 116, 32, 53, 58, 32, 112, 97, 114, 101, 110, 116, 104, 101, 115, 105, 115]⟩ := rfl
  simp only [es] at HT
  clear es
  go_wp2_with (first
      | (go_at_call 39; refine (HC.out _ (Ext.refl _)).mono ?_; rintro e w4 ⟨rfl, rfl⟩)
      | (go_at_call 40; refine (HT.out _ (Ext.refl _)).mono ?_; rintro e w5 ⟨rfl, hx5⟩; have HX5 := Lib.hid hx5; clear hx5))
  go_ret
  exact ⟨rfl, HX.out.trans HX5.out⟩

set_option maxRecDepth 100000 in
set_option maxHeartbeats 2000000 in
theorem faultWords_walk (n : Int) (A : Nat → Addr) (w : World) (hE : ErrsAt w A) (hL : LibV w) :
    Calls Tryd.prog 7 #[.int .i64 n] w fun e w' => e = .returned (.bool true) ∧ Ext w w' := by
  have HLv := Lib.hid (fun (W : World) (hx : Ext w W) => flives_any A W (hE.ext hx) (hL.ext hx))
  have HW := Lib.hid (fun (W : World) (hx : Ext w W) => word_any A n W (hE.ext hx))
  have HR := Lib.hid (fun (W : World) => rwords_any n W)
  obtain ⟨s, hs⟩ : ∃ s, strV (wrdP n) = .string s := ⟨_, rfl⟩
  simp only [hs] at HW HR
  have hq : (s.toList == s.toList) = true := by simp
  clear hE hL hs
  go_enter Tryd.func7, Tryd.ntmps7
  go_wp2_with (first
      | (go_at_call 35; refine (HLv.out _ (Ext.refl _)).mono ?_; rintro e w1 ⟨rfl, hx1⟩; have HX1 := Lib.hid hx1; clear hx1)
      | (go_at_call 45; refine (HW.out _ HX1.out).mono ?_; rintro e w2 ⟨rfl, hx2⟩; have HX2 := Lib.hid (HX1.out.trans hx2); clear hx2)
      | (go_at_call 46; refine (HR.out _).mono ?_; rintro e w3 ⟨rfl, hx3⟩; have HX3 := Lib.hid (HX2.out.trans hx3); clear hx3))
  go_ret
  exact ⟨rfl, HX3.out⟩

end Go.Proofs.YtkcgbdoplhgbmaaDoor
