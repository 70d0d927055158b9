/- trawlref03.Tell: the line of links and a number. No condition. Printed by genrtell.py. -/
import Derived.Test.YtkcgbdoplhgbmaaDoorFTell
namespace Go.Proofs.YtkcgbdoplhgbmaaDoor
open Go Go.RowKit Go.Extern.Stop Go.Stop Go.Extern

set_option maxRecDepth 100000 in
set_option maxHeartbeats 4000000 in
theorem rtell_any (n : Int) (ls : List (Bool × Int)) (sv : Value) (w : World) (hr : RdK w sv ls) (hl : okK ls) (hb : ls.length < 4611686018427387904) :
    Calls Tryd.prog 41 #[sv, .int .i64 n] w fun e w' => e = .returned (strV (tellF n ls.reverse)) ∧ Ext w w' := by
  by_cases h0 : n = 0
  · subst h0
    clear hr hl hb
    go_enter Tryd.func41, Tryd.ntmps41
    go_wp2
    go_ret
    exact ⟨rfl, Ext.refl _⟩
  have HI := Lib.hid (fun (W : World) (hx : Ext w W) => last_any true ls sv W (hr.ext hx) hb)
  have HP := Lib.hid (fun (W : World) (hx : Ext w W) => last_any false ls sv W (hr.ext hx) hb)
  have HW := Lib.hid (fun (W : World) => rwords_any n W)
  have HT := Lib.hid (fun (W : World) (k : Int) hk => dec_any k W hk)
  have HR := Lib.hid (show tellF n ls.reverse = tellP (firstL true ls.reverse) (firstL false ls.reverse) (wordsP n) from if_neg h0)
  have hlr : okK ls.reverse := fun x hx => hl x (List.mem_reverse.1 hx)
  have hky := fun k => @firstL_ok true ls.reverse k hlr
  have hkx := fun k => @firstL_ok false ls.reverse k hlr
  have hwl := wrdP_len n
  generalize firstL true ls.reverse = y at *
  generalize firstL false ls.reverse = x at *
  generalize tellF n ls.reverse = res at *
  clear hr hl hb hlr
  by_cases hc : n < 0
  · have hwo : wordsP n = othB := if_pos hc
    rcases y with _ | k
    · rcases x with _ | m
      · have e1 := fun W => addS [] othB _ rfl (by decide) (by decide) W
        have HR2 := Lib.hid (show res = [] ++ othB by rw [HR.out, hwo]; simp [tellP, numP])
        clear HR hky hkx hwl hwo
        have l4 : strV othB = .string ⟨#[111, 116, 104, 101, 114]⟩ := rfl
        have l5 : strV [] = .string ⟨#[]⟩ := rfl
        simp only [l4] at e1
        simp only [l5] at e1
        simp only [binOp_string_add] at e1
        clear l4 l5
        go_enter Tryd.func41, Tryd.ntmps41
        go_wp2_with (first | (go_at_call 44; ((with_reducible refine (HI.out _ (Ext.refl w)).mono ?_); rintro e w1 ⟨rfl, rfl⟩)) | (go_at_call 44; ((with_reducible refine (HP.out _ (Ext.refl w)).mono ?_); rintro e w3 ⟨rfl, rfl⟩)))
        go_ret
        exact ⟨by rw [HR2.out]; rfl, (Ext.refl w)⟩
      · have hm := hkx m rfl
        have im := itoa_len m hm
        have g1 := fun W => addS [] atB _ rfl (by decide) (by decide) W
        have g2 := fun W => addS ([] ++ atB) (Lib.itoa m) _ rfl (by decide) (by omega) W
        have g3 := fun W => addS ([] ++ atB ++ Lib.itoa m) colB _ rfl (by simp [atB]; omega) (by decide) W
        have HM := Lib.hid hm
        have e1 := fun W => addS ([] ++ atB ++ Lib.itoa m ++ colB) othB _ rfl (by simp [atB, colB]; omega) (by decide) W
        have HR2 := Lib.hid (show res = ([] ++ atB ++ Lib.itoa m ++ colB) ++ othB by rw [HR.out, hwo]; simp [tellP, numP])
        clear HR hky hkx hwl hwo hm im
        have l2 : strV atB = .string ⟨#[97, 116, 32]⟩ := rfl
        have l3 : strV colB = .string ⟨#[58, 32]⟩ := rfl
        have l4 : strV othB = .string ⟨#[111, 116, 104, 101, 114]⟩ := rfl
        have l5 : strV [] = .string ⟨#[]⟩ := rfl
        clear g1
        have g1 : (⟨#[]⟩ : ByteArray) ++ ⟨#[97, 116, 32]⟩ = ⟨#[97, 116, 32]⟩ := rfl
        simp only [List.nil_append] at g2 g3 e1 HR2
        simp only [l2] at g2
        simp only [l3] at g3
        simp only [l4] at e1
        clear l2 l3 l4 l5
        generalize (atB ++ Lib.itoa m ++ colB) ++ othB = fin at *
        generalize atB ++ Lib.itoa m ++ colB = q3 at *
        generalize atB ++ Lib.itoa m = q2 at *
        go_enter Tryd.func41, Tryd.ntmps41
        go_wp2_with (first | (go_at_call 44; ((with_reducible refine (HI.out _ (Ext.refl w)).mono ?_); rintro e w1 ⟨rfl, rfl⟩)) | (go_at_call 44; ((with_reducible refine (HP.out _ (Ext.refl w)).mono ?_); rintro e w3 ⟨rfl, rfl⟩)) | (go_at_call 76; ((with_reducible refine (HT.out _ m HM.out).mono ?_); rintro e w4 ⟨rfl, hx4⟩; have HX4 := Lib.hid ((Ext.refl w).trans hx4); clear hx4)))
        go_ret
        exact ⟨by rw [HR2.out]; rfl, HX4.out⟩
    · rcases x with _ | m
      · have hk := hky k rfl
        have ik := itoa_len k hk
        have f1 := fun W => addS [] patB _ (List.nil_append _) (by decide) (by decide) W
        have f2 := fun W => addS patB (Lib.itoa k) _ rfl (by decide) (by omega) W
        have f3 := fun W => addS (patB ++ Lib.itoa k) colB _ rfl (by simp [patB]; omega) (by decide) W
        have HK := Lib.hid hk
        have e1 := fun W => addS (patB ++ Lib.itoa k ++ colB) othB _ rfl (by simp [patB, colB]; omega) (by decide) W
        have HR2 := Lib.hid (show res = (patB ++ Lib.itoa k ++ colB) ++ othB by rw [HR.out, hwo]; simp [tellP, numP])
        clear HR hky hkx hwl hwo hk ik
        have l1 : strV patB = .string ⟨#[112, 97, 116, 116, 101, 114, 110, 32]⟩ := rfl
        have l3 : strV colB = .string ⟨#[58, 32]⟩ := rfl
        have l4 : strV othB = .string ⟨#[111, 116, 104, 101, 114]⟩ := rfl
        have l5 : strV [] = .string ⟨#[]⟩ := rfl
        clear f1
        have f1 : (⟨#[]⟩ : ByteArray) ++ ⟨#[112, 97, 116, 116, 101, 114, 110, 32]⟩ = ⟨#[112, 97, 116, 116, 101, 114, 110, 32]⟩ := rfl
        simp only [l1] at f2
        simp only [l3] at f3
        simp only [l4] at e1
        clear l1 l3 l4 l5
        generalize (patB ++ Lib.itoa k ++ colB) ++ othB = fin at *
        generalize patB ++ Lib.itoa k ++ colB = p2 at *
        generalize patB ++ Lib.itoa k = p1 at *
        go_enter Tryd.func41, Tryd.ntmps41
        go_wp2_with (first | (go_at_call 44; ((with_reducible refine (HI.out _ (Ext.refl w)).mono ?_); rintro e w1 ⟨rfl, rfl⟩)) | (go_at_call 76; ((with_reducible refine (HT.out _ k HK.out).mono ?_); rintro e w2 ⟨rfl, hx2⟩; have HX2 := Lib.hid hx2; clear hx2)) | (go_at_call 44; ((with_reducible refine (HP.out _ HX2.out).mono ?_); rintro e w3 ⟨rfl, rfl⟩)))
        go_ret
        exact ⟨by rw [HR2.out]; rfl, HX2.out⟩
      · have hk := hky k rfl
        have ik := itoa_len k hk
        have f1 := fun W => addS [] patB _ (List.nil_append _) (by decide) (by decide) W
        have f2 := fun W => addS patB (Lib.itoa k) _ rfl (by decide) (by omega) W
        have f3 := fun W => addS (patB ++ Lib.itoa k) colB _ rfl (by simp [patB]; omega) (by decide) W
        have HK := Lib.hid hk
        have hm := hkx m rfl
        have im := itoa_len m hm
        have g1 := fun W => addS (patB ++ Lib.itoa k ++ colB) atB _ rfl (by simp [patB, colB]; omega) (by decide) W
        have g2 := fun W => addS ((patB ++ Lib.itoa k ++ colB) ++ atB) (Lib.itoa m) _ rfl (by simp [patB, atB, colB]; omega) (by omega) W
        have g3 := fun W => addS ((patB ++ Lib.itoa k ++ colB) ++ atB ++ Lib.itoa m) colB _ rfl (by simp [patB, atB, colB]; omega) (by decide) W
        have HM := Lib.hid hm
        have e1 := fun W => addS ((patB ++ Lib.itoa k ++ colB) ++ atB ++ Lib.itoa m ++ colB) othB _ rfl (by simp [patB, atB, colB]; omega) (by decide) W
        have HR2 := Lib.hid (show res = ((patB ++ Lib.itoa k ++ colB) ++ atB ++ Lib.itoa m ++ colB) ++ othB by rw [HR.out, hwo]; simp [tellP, numP])
        clear HR hky hkx hwl hwo hk ik hm im
        have l1 : strV patB = .string ⟨#[112, 97, 116, 116, 101, 114, 110, 32]⟩ := rfl
        have l2 : strV atB = .string ⟨#[97, 116, 32]⟩ := rfl
        have l3 : strV colB = .string ⟨#[58, 32]⟩ := rfl
        have l4 : strV othB = .string ⟨#[111, 116, 104, 101, 114]⟩ := rfl
        have l5 : strV [] = .string ⟨#[]⟩ := rfl
        clear f1
        have f1 : (⟨#[]⟩ : ByteArray) ++ ⟨#[112, 97, 116, 116, 101, 114, 110, 32]⟩ = ⟨#[112, 97, 116, 116, 101, 114, 110, 32]⟩ := rfl
        simp only [l1] at f2
        simp only [l3] at f3
        simp only [l2] at g1
        simp only [l3] at g3
        simp only [l4] at e1
        clear l1 l2 l3 l4 l5
        generalize ((patB ++ Lib.itoa k ++ colB) ++ atB ++ Lib.itoa m ++ colB) ++ othB = fin at *
        generalize (patB ++ Lib.itoa k ++ colB) ++ atB ++ Lib.itoa m ++ colB = q3 at *
        generalize (patB ++ Lib.itoa k ++ colB) ++ atB ++ Lib.itoa m = q2 at *
        generalize (patB ++ Lib.itoa k ++ colB) ++ atB = q1 at *
        generalize patB ++ Lib.itoa k ++ colB = p2 at *
        generalize patB ++ Lib.itoa k = p1 at *
        go_enter Tryd.func41, Tryd.ntmps41
        go_wp2_with (first | (go_at_call 44; ((with_reducible refine (HI.out _ (Ext.refl w)).mono ?_); rintro e w1 ⟨rfl, rfl⟩)) | (go_at_call 76; ((with_reducible refine (HT.out _ k HK.out).mono ?_); rintro e w2 ⟨rfl, hx2⟩; have HX2 := Lib.hid hx2; clear hx2)) | (go_at_call 44; ((with_reducible refine (HP.out _ HX2.out).mono ?_); rintro e w3 ⟨rfl, rfl⟩)) | (go_at_call 76; ((with_reducible refine (HT.out _ m HM.out).mono ?_); rintro e w4 ⟨rfl, hx4⟩; have HX4 := Lib.hid (HX2.out.trans hx4); clear hx4)))
        go_ret
        exact ⟨by rw [HR2.out]; rfl, HX4.out⟩
  · have hwo : wordsP n = wrdP n := if_neg hc
    generalize wrdP n = wo at *
    rcases y with _ | k
    · rcases x with _ | m
      · have e1 := fun W => addS [] wo _ rfl (by decide) (by omega) W
        have HR2 := Lib.hid (show res = [] ++ wo by rw [HR.out, hwo]; simp [tellP, numP])
        clear HR hky hkx hwl hwo
        have l5 : strV [] = .string ⟨#[]⟩ := rfl
        simp only [l5] at e1
        clear l5
        generalize [] ++ wo = fin at *
        go_enter Tryd.func41, Tryd.ntmps41
        go_wp2_with (first | (go_at_call 44; ((with_reducible refine (HI.out _ (Ext.refl w)).mono ?_); rintro e w1 ⟨rfl, rfl⟩)) | (go_at_call 44; ((with_reducible refine (HP.out _ (Ext.refl w)).mono ?_); rintro e w3 ⟨rfl, rfl⟩)) | (go_at_call 46; refine (HW.out _).mono ?_; rintro e w6 ⟨rfl, hx6⟩; have HX6 := Lib.hid ((Ext.refl w).trans hx6); clear hx6))
        go_ret
        exact ⟨by rw [HR2.out]; rfl, HX6.out⟩
      · have hm := hkx m rfl
        have im := itoa_len m hm
        have g1 := fun W => addS [] atB _ rfl (by decide) (by decide) W
        have g2 := fun W => addS ([] ++ atB) (Lib.itoa m) _ rfl (by decide) (by omega) W
        have g3 := fun W => addS ([] ++ atB ++ Lib.itoa m) colB _ rfl (by simp [atB]; omega) (by decide) W
        have HM := Lib.hid hm
        have e1 := fun W => addS ([] ++ atB ++ Lib.itoa m ++ colB) wo _ rfl (by simp [atB, colB]; omega) (by omega) W
        have HR2 := Lib.hid (show res = ([] ++ atB ++ Lib.itoa m ++ colB) ++ wo by rw [HR.out, hwo]; simp [tellP, numP])
        clear HR hky hkx hwl hwo hm im
        have l2 : strV atB = .string ⟨#[97, 116, 32]⟩ := rfl
        have l3 : strV colB = .string ⟨#[58, 32]⟩ := rfl
        have l5 : strV [] = .string ⟨#[]⟩ := rfl
        clear g1
        have g1 : (⟨#[]⟩ : ByteArray) ++ ⟨#[97, 116, 32]⟩ = ⟨#[97, 116, 32]⟩ := rfl
        simp only [List.nil_append] at g2 g3 e1 HR2
        simp only [l2] at g2
        simp only [l3] at g3
        clear l2 l3 l5
        generalize (atB ++ Lib.itoa m ++ colB) ++ wo = fin at *
        generalize atB ++ Lib.itoa m ++ colB = q3 at *
        generalize atB ++ Lib.itoa m = q2 at *
        go_enter Tryd.func41, Tryd.ntmps41
        go_wp2_with (first | (go_at_call 44; ((with_reducible refine (HI.out _ (Ext.refl w)).mono ?_); rintro e w1 ⟨rfl, rfl⟩)) | (go_at_call 44; ((with_reducible refine (HP.out _ (Ext.refl w)).mono ?_); rintro e w3 ⟨rfl, rfl⟩)) | (go_at_call 76; ((with_reducible refine (HT.out _ m HM.out).mono ?_); rintro e w4 ⟨rfl, hx4⟩; have HX4 := Lib.hid ((Ext.refl w).trans hx4); clear hx4)) | (go_at_call 46; refine (HW.out _).mono ?_; rintro e w6 ⟨rfl, hx6⟩; have HX6 := Lib.hid (HX4.out.trans hx6); clear hx6))
        go_ret
        exact ⟨by rw [HR2.out]; rfl, HX6.out⟩
    · rcases x with _ | m
      · have hk := hky k rfl
        have ik := itoa_len k hk
        have f1 := fun W => addS [] patB _ (List.nil_append _) (by decide) (by decide) W
        have f2 := fun W => addS patB (Lib.itoa k) _ rfl (by decide) (by omega) W
        have f3 := fun W => addS (patB ++ Lib.itoa k) colB _ rfl (by simp [patB]; omega) (by decide) W
        have HK := Lib.hid hk
        have e1 := fun W => addS (patB ++ Lib.itoa k ++ colB) wo _ rfl (by simp [patB, colB]; omega) (by omega) W
        have HR2 := Lib.hid (show res = (patB ++ Lib.itoa k ++ colB) ++ wo by rw [HR.out, hwo]; simp [tellP, numP])
        clear HR hky hkx hwl hwo hk ik
        have l1 : strV patB = .string ⟨#[112, 97, 116, 116, 101, 114, 110, 32]⟩ := rfl
        have l3 : strV colB = .string ⟨#[58, 32]⟩ := rfl
        have l5 : strV [] = .string ⟨#[]⟩ := rfl
        clear f1
        have f1 : (⟨#[]⟩ : ByteArray) ++ ⟨#[112, 97, 116, 116, 101, 114, 110, 32]⟩ = ⟨#[112, 97, 116, 116, 101, 114, 110, 32]⟩ := rfl
        simp only [l1] at f2
        simp only [l3] at f3
        clear l1 l3 l5
        generalize (patB ++ Lib.itoa k ++ colB) ++ wo = fin at *
        generalize patB ++ Lib.itoa k ++ colB = p2 at *
        generalize patB ++ Lib.itoa k = p1 at *
        go_enter Tryd.func41, Tryd.ntmps41
        go_wp2_with (first | (go_at_call 44; ((with_reducible refine (HI.out _ (Ext.refl w)).mono ?_); rintro e w1 ⟨rfl, rfl⟩)) | (go_at_call 76; ((with_reducible refine (HT.out _ k HK.out).mono ?_); rintro e w2 ⟨rfl, hx2⟩; have HX2 := Lib.hid hx2; clear hx2)) | (go_at_call 44; ((with_reducible refine (HP.out _ HX2.out).mono ?_); rintro e w3 ⟨rfl, rfl⟩)) | (go_at_call 46; refine (HW.out _).mono ?_; rintro e w6 ⟨rfl, hx6⟩; have HX6 := Lib.hid (HX2.out.trans hx6); clear hx6))
        go_ret
        exact ⟨by rw [HR2.out]; rfl, HX6.out⟩
      · have hk := hky k rfl
        have ik := itoa_len k hk
        have f1 := fun W => addS [] patB _ (List.nil_append _) (by decide) (by decide) W
        have f2 := fun W => addS patB (Lib.itoa k) _ rfl (by decide) (by omega) W
        have f3 := fun W => addS (patB ++ Lib.itoa k) colB _ rfl (by simp [patB]; omega) (by decide) W
        have HK := Lib.hid hk
        have hm := hkx m rfl
        have im := itoa_len m hm
        have g1 := fun W => addS (patB ++ Lib.itoa k ++ colB) atB _ rfl (by simp [patB, colB]; omega) (by decide) W
        have g2 := fun W => addS ((patB ++ Lib.itoa k ++ colB) ++ atB) (Lib.itoa m) _ rfl (by simp [patB, atB, colB]; omega) (by omega) W
        have g3 := fun W => addS ((patB ++ Lib.itoa k ++ colB) ++ atB ++ Lib.itoa m) colB _ rfl (by simp [patB, atB, colB]; omega) (by decide) W
        have HM := Lib.hid hm
        have e1 := fun W => addS ((patB ++ Lib.itoa k ++ colB) ++ atB ++ Lib.itoa m ++ colB) wo _ rfl (by simp [patB, atB, colB]; omega) (by omega) W
        have HR2 := Lib.hid (show res = ((patB ++ Lib.itoa k ++ colB) ++ atB ++ Lib.itoa m ++ colB) ++ wo by rw [HR.out, hwo]; simp [tellP, numP])
        clear HR hky hkx hwl hwo hk ik hm im
        have l1 : strV patB = .string ⟨#[112, 97, 116, 116, 101, 114, 110, 32]⟩ := rfl
        have l2 : strV atB = .string ⟨#[97, 116, 32]⟩ := rfl
        have l3 : strV colB = .string ⟨#[58, 32]⟩ := rfl
        have l5 : strV [] = .string ⟨#[]⟩ := rfl
        clear f1
        have f1 : (⟨#[]⟩ : ByteArray) ++ ⟨#[112, 97, 116, 116, 101, 114, 110, 32]⟩ = ⟨#[112, 97, 116, 116, 101, 114, 110, 32]⟩ := rfl
        simp only [l1] at f2
        simp only [l3] at f3
        simp only [l2] at g1
        simp only [l3] at g3
        clear l1 l2 l3 l5
        generalize ((patB ++ Lib.itoa k ++ colB) ++ atB ++ Lib.itoa m ++ colB) ++ wo = fin at *
        generalize (patB ++ Lib.itoa k ++ colB) ++ atB ++ Lib.itoa m ++ colB = q3 at *
        generalize (patB ++ Lib.itoa k ++ colB) ++ atB ++ Lib.itoa m = q2 at *
        generalize (patB ++ Lib.itoa k ++ colB) ++ atB = q1 at *
        generalize patB ++ Lib.itoa k ++ colB = p2 at *
        generalize patB ++ Lib.itoa k = p1 at *
        go_enter Tryd.func41, Tryd.ntmps41
        go_wp2_with (first | (go_at_call 44; ((with_reducible refine (HI.out _ (Ext.refl w)).mono ?_); rintro e w1 ⟨rfl, rfl⟩)) | (go_at_call 76; ((with_reducible refine (HT.out _ k HK.out).mono ?_); rintro e w2 ⟨rfl, hx2⟩; have HX2 := Lib.hid hx2; clear hx2)) | (go_at_call 44; ((with_reducible refine (HP.out _ HX2.out).mono ?_); rintro e w3 ⟨rfl, rfl⟩)) | (go_at_call 76; ((with_reducible refine (HT.out _ m HM.out).mono ?_); rintro e w4 ⟨rfl, hx4⟩; have HX4 := Lib.hid (HX2.out.trans hx4); clear hx4)) | (go_at_call 46; refine (HW.out _).mono ?_; rintro e w6 ⟨rfl, hx6⟩; have HX6 := Lib.hid (HX4.out.trans hx6); clear hx6))
        go_ret
        exact ⟨by rw [HR2.out]; rfl, HX6.out⟩

end Go.Proofs.YtkcgbdoplhgbmaaDoor
