/- FaultTells' walk. Condition: where the error values lie, and the library's two variables. -/
import Derived.Test.YtkcgbdoplhgbmaaDoorFLiv
namespace Go.Proofs.YtkcgbdoplhgbmaaDoor
open Go Go.RowKit Go.Extern.Stop Go.Stop Go.Extern

theorem FErr.nil {w : World} {A : Nat → Addr} {l : List (Bool × Int)} {v : Value} (h : FErr w A 0 l v) : v = .nilIface := by
  rcases h with ⟨_, h⟩ | ⟨h0, _⟩
  · exact h
  · exact absurd rfl h0
theorem FErr.some {w : World} {A : Nat → Addr} {n : Int} {l : List (Bool × Int)} {v : Value} (h : FErr w A n l v) (h0 : n ≠ 0) : isIf v := by
  rcases h with ⟨h, _⟩ | ⟨_, a, h1, _⟩
  · exact absurd h h0
  · exact h1.isIf ⟨_, _, rfl⟩

set_option maxRecDepth 100000 in
set_option maxHeartbeats 4000000 in
theorem faultTells_walk (n : Int) (sv : Value) (ls : List (Bool × Int)) (A : Nat → Addr) (w : World) (hr : RdK w sv ls) (hl : okK ls) (hn : -9223372036854775808 ≤ n ∧ n ≤ 9223372036854775807) (hE : ErrsAt w A) (hL : LibV w) :
    Calls Tryd.prog 6 #[.int .i64 n, sv] w fun e w' => e = .returned (.bool true) ∧ Ext w w' := by
  have HLv := Lib.hid (flives_any A w hE hL)
  obtain ⟨a, c, rfl, hc⟩ := hr
  have hr : RdK w (.slice a ls.length c) ls := ⟨a, c, rfl, hc⟩
  clear hc
  by_cases hbig : 1000 < ls.length
  · have q1 : (1000 : Int) < (ls.length : Int) := by omega
    clear hr hl hn hE hL hbig
    go_enter Tryd.func6, Tryd.ntmps6
    go_wp2_with (go_at_call 35; refine HLv.out.mono ?_; rintro e w1 ⟨rfl, hx1⟩; have HX1 := Lib.hid hx1; clear hx1)
    go_ret
    exact ⟨rfl, HX1.out⟩
  have q1 : ¬ (1000 : Int) < (ls.length : Int) := by omega
  have hlb : ls.length < 4611686018427387904 := by omega
  have HR := Lib.hid hr
  have HK := Lib.hid hl
  have HKr := Lib.hid (show okK (ls.reverse ++ []) from fun x hx => hl x (by simpa using hx))
  have HE := Lib.hid hE
  have HL := Lib.hid hL
  have HN := Lib.hid hn
  clear hr hl hn hE hL hbig
  go_enter Tryd.func6, Tryd.ntmps6
  go_upto_region 6 with (first
    | (go_at_call 35; refine HLv.out.mono ?_; rintro e w1 ⟨rfl, hx1⟩; have HX1 := Lib.hid hx1; clear hx1)
    | (go_at_call 37; refine (lsent_any A n w1 (HE.out.ext HX1.out) HN.out).mono ?_; rintro e w2 ⟨u, rfl, hx2, hf2⟩; have HX2 := Lib.hid (HX1.out.trans hx2); have HF2 := Lib.hid hf2; clear hx2 hf2)
    | (go_at_call 36; refine (wrapped_any A n [] ls u _ w2 HF2.out (HR.out.ext HX2.out) hlb).mono ?_; rintro e w3 ⟨v, rfl, hx3, hf3⟩; have HX3 := Lib.hid (HX2.out.trans hx3); have HF3 := Lib.hid hf3; clear hx3 hf3))
  clear HX1 HX2 HF2 HLv
  have HCl := Lib.hid (fun (W : World) => code_law n W)
  have HC := Lib.hid (fun (W : World) (hx : Ext w3 W) => code_any A n _ v W (HF3.out.ext hx) (HE.out.ext (HX3.out.trans hx)))
  have HT := Lib.hid (fun (W : World) (hx : Ext w3 W) => tell_any A n _ v W (HF3.out.ext hx) (HE.out.ext (HX3.out.trans hx)) (HL.out.ext (HX3.out.trans hx)) HKr.out)
  have HU := Lib.hid (fun (W : World) (hx : Ext w3 W) => rtell_any (codeP n) ls _ W (HR.out.ext (HX3.out.trans hx)) HK.out hlb)
  have HP := Lib.hid (fun (W : World) (hx : Ext w3 W) => place_any A n _ v W (HF3.out.ext hx) (HL.out.ext (HX3.out.trans hx)).et)
  have HI := Lib.hid (fun (W : World) (hx : Ext w3 W) => index_any A n _ v W (HF3.out.ext hx) (HL.out.ext (HX3.out.trans hx)).et)
  have HJ := Lib.hid (fun (b : Bool) (W : World) (hx : Ext w3 W) => last_any b ls _ W (HR.out.ext (HX3.out.trans hx)) hlb)
  simp only [List.append_nil] at HC HT HP HI
  obtain ⟨s, hs⟩ : ∃ s, strV (tellF (codeP n) ls.reverse) = .string s := ⟨_, rfl⟩
  simp only [hs] at HT HU
  have hq : (s.toList != s.toList) = false := by simp
  clear HR HK HKr HE HL HN hs
  by_cases h0 : n = 0
  · subst h0
    obtain rfl := HF3.out.nil
    clear HF3 HJ
    simp only [plF, if_pos] at HP HI
    generalize codeP 0 = cn at *
    go_wp2_with (first
      | (go_at_call 38; refine (HCl.out _).mono ?_; rintro e w4 ⟨rfl, rfl⟩)
      | (go_at_call 39; refine (HC.out _ (Ext.refl _)).mono ?_; rintro e w4 ⟨rfl, rfl⟩)
      | (go_at_call 40; refine (HT.out _ (Ext.refl _)).mono ?_; rintro e w5 ⟨rfl, hx5⟩; have HX5 := Lib.hid hx5; clear hx5)
      | (go_at_call 41; refine (HU.out _ HX5.out).mono ?_; rintro e w6 ⟨rfl, hx6⟩; have HX6 := Lib.hid (HX5.out.trans hx6); clear hx6)
      | (go_at_call 42; refine (HP.out _ HX6.out).mono ?_; rintro e w7 ⟨rfl, hx7⟩; have HX7 := Lib.hid (HX6.out.trans hx7); clear hx7)
      | (go_at_call 43; refine (HI.out _ HX7.out).mono ?_; rintro e w8 ⟨rfl, hx8⟩; have HX8 := Lib.hid (HX7.out.trans hx8); clear hx8))
    go_ret
    exact ⟨rfl, HX3.out.trans HX8.out⟩
  · obtain ⟨tv, xv, rfl⟩ := HF3.out.some h0
    clear HF3
    simp only [plF, if_neg h0] at HP HI
    generalize codeP n = cn at *
    have HJ0 := Lib.hid (fun W hx => HJ.out false W hx)
    have HJ1 := Lib.hid (fun W hx => HJ.out true W hx)
    clear HJ
    generalize firstL false ls.reverse = x at *
    generalize firstL true ls.reverse = y at *
    generalize x.getD 0 = x0 at *
    generalize y.getD 0 = y0 at *
    generalize x.isSome = x1 at *
    generalize y.isSome = y1 at *
    go_wp2_with (first
      | (go_at_call 38; refine (HCl.out _).mono ?_; rintro e w4 ⟨rfl, rfl⟩)
      | (go_at_call 39; refine (HC.out _ (Ext.refl _)).mono ?_; rintro e w4 ⟨rfl, rfl⟩)
      | (go_at_call 40; refine (HT.out _ (Ext.refl _)).mono ?_; rintro e w5 ⟨rfl, hx5⟩; have HX5 := Lib.hid hx5; clear hx5)
      | (go_at_call 41; refine (HU.out _ HX5.out).mono ?_; rintro e w6 ⟨rfl, hx6⟩; have HX6 := Lib.hid (HX5.out.trans hx6); clear hx6)
      | (go_at_call 42; refine (HP.out _ HX6.out).mono ?_; rintro e w7 ⟨rfl, hx7⟩; have HX7 := Lib.hid (HX6.out.trans hx7); clear hx7)
      | (go_at_call 43; refine (HI.out _ HX7.out).mono ?_; rintro e w8 ⟨rfl, hx8⟩; have HX8 := Lib.hid (HX7.out.trans hx8); clear hx8)
      | (go_at_call 44; ((with_reducible refine (HJ0.out _ HX8.out).mono ?_); rintro e w9 ⟨rfl, rfl⟩))
      | (go_at_call 44; ((with_reducible refine (HJ1.out _ HX8.out).mono ?_); rintro e w10 ⟨rfl, rfl⟩)))
    go_ret
    exact ⟨by simp, HX3.out.trans HX8.out⟩

end Go.Proofs.YtkcgbdoplhgbmaaDoor
