/- fault.Tell and trawlref03.Tell: the line of an error in links. Condition: where the error values lie, and the library's two variables. Printed by genftell.py. -/
import Derived.Test.YtkcgbdoplhgbmaaDoorFCode
import Derived.Test.YtkcgbdoplhgbmaaDoorFWrd
import Derived.Test.YtkcgbdoplhgbmaaDoorDcm
import Derived.Test.YtkcgbdoplhgbmaaDoorShI
namespace Go.Proofs.YtkcgbdoplhgbmaaDoor
open Go Go.RowKit Go.Extern.Stop Go.Stop Go.Extern

/-- What the row's list says of the two library variables. -/
structure LibV (w : World) : Prop where
  et : w.cell? ⟨21, 0, none⟩ = some errTV
  pw : Lib.TabIs Tryd.prog w "internal/strconv.uint64pow10" .u64 Lib.pow10Tab
theorem pw_global : Tryd.prog.globalNamed "internal/strconv.uint64pow10" = some 23 := by kernel_rfl
theorem LibV.ext {w w' : World} (h : LibV w) (hx : Ext w w') : LibV w' := by
  refine ⟨hx.cell h.et, ?_⟩
  have hp := h.pw
  unfold Lib.TabIs World.var? at *
  rw [pw_global] at *
  simp only [Option.bind_some] at *
  have hlt : 23 < w.heap.size := by
    rcases Nat.lt_or_ge 23 w.heap.size with h | h
    · exact h
    · rw [Array.getElem?_eq_none h] at hp
      cases hp
  rw [hx.block _ hlt]
  exact hp
def patB : List UInt8 := [112, 97, 116, 116, 101, 114, 110, 32]
def atB : List UInt8 := [97, 116, 32]
def colB : List UInt8 := [58, 32]
def othB : List UInt8 := [111, 116, 104, 101, 114]
/-- The line: the two numbers (none: not told), the words. -/
def numP (h : List UInt8) : Option Int → List UInt8
  | none => []
  | some k => h ++ (Lib.itoa k ++ colB)
def tellP (y x : Option Int) (c : List UInt8) : List UInt8 := numP patB y ++ (numP atB x ++ c)
def tellW (n : Int) : List UInt8 := if n < 0 then othB else wrdP n
def tellF (n : Int) (l : List (Bool × Int)) : List UInt8 := if n = 0 then [] else tellP (firstL true l) (firstL false l) (tellW n)

theorem ext_grow (w : World) (k : Nat) (os : Array Obj) : Ext w (Sort.grow (w.drewN k) os) :=
  ⟨rfl, rfl, rfl, by simp [Sort.grow, World.drewN], fun i hi => by
    show (w.heap ++ os)[i]? = w.heap[i]?
    exact Array.getElem?_append_left hi⟩
theorem itoa_any (n : Int) (w : World) (hn : -9223372036854775808 ≤ n ∧ n ≤ 9223372036854775807) (hL : LibV w) :
    Calls Tryd.prog 75 #[.int .i64 n] w fun e w' => e = .returned (strV (Lib.itoa n)) ∧ Ext w w' := by
  refine (Tryd.strconv_Itoa n hn.1 hn.2 w hL.pw).mono ?_
  rintro e w' ⟨rfl, k, os, rfl⟩
  exact ⟨rfl, ext_grow _ _ _⟩
theorem addS (p q r : List UInt8) (h : p ++ q = r) (hp : p.length ≤ 1000000) (hq : q.length ≤ 1000000) (W : World) : (binOp .add 9 (strV p) (strV q)).run Tryd.prog W = .ok (strV r) W := h ▸ add_strV p q (by omega) W
theorem firstL_ok {b : Bool} : ∀ {l : List (Bool × Int)} {k : Int}, okK l → firstL b l = some k → -9223372036854775808 ≤ k ∧ k ≤ 9223372036854775807
  | [], _, _, h => by cases h
  | (i, n) :: r, k, ho, h => by
    unfold firstL at h
    split at h
    · cases h
      exact ho (i, n) (by simp)
    · exact firstL_ok (fun x hx => ho x (by simp [hx])) h
theorem itoa_len (k : Int) (h : -9223372036854775808 ≤ k ∧ k ≤ 9223372036854775807) : (Lib.itoa k).length ≤ 21 := Lib.itoa_length_le k h.1 h.2

set_option maxRecDepth 100000 in
set_option maxHeartbeats 4000000 in
theorem tell_any (A : Nat → Addr) (n : Int) (l : List (Bool × Int)) (v : Value) (w : World) (h : FErr w A n l v) (hE : ErrsAt w A) (hL : LibV w) (hl : okK l) :
    Calls Tryd.prog 40 #[v] w fun e w' => e = .returned (strV (tellF (codeP n) l)) ∧ Ext w w' := by
  by_cases h0 : n = 0
  · subst h0
    rcases h with ⟨_, rfl⟩ | ⟨h0, _⟩
    · clear hE hL hl
      go_enter Tryd.func40, Tryd.ntmps40
      go_wp2
      go_ret
      exact ⟨rfl, Ext.refl _⟩
    · exact absurd rfl h0
  have hnil : isIf v := by
    rcases h with ⟨h, _⟩ | ⟨_, a, h1, _⟩
    · exact absurd h h0
    · exact h1.isIf ⟨_, _, rfl⟩
  have HI := Lib.hid (fun (W : World) (hx : Ext w W) => index_any A n l v W (h.ext hx) (hL.ext hx).et)
  have HP := Lib.hid (fun (W : World) (hx : Ext w W) => place_any A n l v W (h.ext hx) (hL.ext hx).et)
  have HC := Lib.hid (fun (W : World) (hx : Ext w W) => code_any A n l v W (h.ext hx) (hE.ext hx))
  have HW := Lib.hid (fun (W : World) (hx : Ext w W) => word_any A (codeP n) W (hE.ext hx))
  have HT := Lib.hid (fun (W : World) (hx : Ext w W) (k : Int) hk => itoa_any k W hk (hL.ext hx))
  rw [show plF true n l = firstL true l from if_neg h0] at HI
  rw [show plF false n l = firstL false l from if_neg h0] at HP
  have hc0 : codeP n ≠ 0 := by unfold codeP; split <;> omega
  have HR := Lib.hid (show tellF (codeP n) l = tellP (firstL true l) (firstL false l) (tellW (codeP n)) from if_neg hc0)
  have hcw : ∃ c, wrdP (codeP n) = c ∧ c.length ≤ 20 ∧ ((c = [] ∧ tellW (codeP n) = othB) ∨ (c ≠ [] ∧ tellW (codeP n) = c)) := by
    refine ⟨_, rfl, wrdP_len _, ?_⟩
    unfold tellW
    by_cases hr : n < 0 ∨ 21 < n
    · rw [show codeP n = -1 from if_pos hr]
      exact .inl ⟨rfl, rfl⟩
    · rw [show codeP n = n from if_neg hr]
      refine .inr ⟨?_, if_neg (by omega)⟩
      have hall : ∀ k : Fin 22, wrdL.getD k.val [] ≠ [] := by decide +kernel
      unfold wrdP
      rw [if_pos (by omega)]
      exact hall ⟨n.toNat, by omega⟩
  obtain ⟨c, hc1, hc2, hc3⟩ := hcw
  rw [hc1] at HW
  have hky := fun k => @firstL_ok true l k hl
  have hkx := fun k => @firstL_ok false l k hl
  obtain ⟨tv, xv, rfl⟩ := hnil
  generalize firstL true l = y at *
  generalize firstL false l = x at *
  generalize tellF (codeP n) l = res at *
  generalize codeP n = cn at *
  generalize tellW cn = wo at *
  clear h hE hL hl hc1 hc0 h0
  rcases hc3 with ⟨rfl, rfl⟩ | ⟨hc, hw⟩
  · rcases y with _ | k
    · rcases x with _ | m
      · have e1 := fun W => addS ([]) othB _ rfl (by decide) (by decide) W
        have HR2 := Lib.hid (show res = ([]) ++ othB by rw [HR.out]; simp [tellP, numP])
        clear HR hky hkx hc2
        have l4 : strV othB = .string ⟨#[111, 116, 104, 101, 114]⟩ := rfl
        have l5 : strV [] = .string ⟨#[]⟩ := rfl
        simp only [l4] at e1
        simp only [l5] at HW
        simp only [l5] at e1
        simp only [binOp_string_add] at e1
        clear l4 l5
        go_enter Tryd.func40, Tryd.ntmps40
        go_wp2_with (first | (go_at_call 43; refine (HI.out _ (Ext.refl w)).mono ?_; rintro e w1 ⟨rfl, hx1⟩; have HX1 := Lib.hid hx1; clear hx1) | (go_at_call 42; refine (HP.out _ HX1.out).mono ?_; rintro e w3 ⟨rfl, hx3⟩; have HX3 := Lib.hid (HX1.out.trans hx3); clear hx3 HX1) | (go_at_call 39; refine (HC.out _ HX3.out).mono ?_; rintro e w5 ⟨rfl, rfl⟩) | (go_at_call 45; refine (HW.out _ HX3.out).mono ?_; rintro e w6 ⟨rfl, hx6⟩; have HX6 := Lib.hid (HX3.out.trans hx6); clear hx6))
        go_ret
        exact ⟨by rw [HR2.out]; rfl, HX6.out⟩
      · have hm := hkx m rfl
        have im := itoa_len m hm
        have g1 := fun W => addS atB (Lib.itoa m) _ rfl (by decide) (by omega) W
        have g2 := fun W => addS (atB ++ Lib.itoa m) colB _ rfl (by simp [atB]; omega) (by decide) W
        have g3 := fun W => addS [] (atB ++ Lib.itoa m ++ colB) _ rfl (by decide) (by simp [atB, colB]; omega) W
        have HM := Lib.hid hm
        have e1 := fun W => addS ([] ++ (atB ++ Lib.itoa m ++ colB)) othB _ rfl (by simp [atB, colB]; omega) (by decide) W
        have HR2 := Lib.hid (show res = ([] ++ (atB ++ Lib.itoa m ++ colB)) ++ othB by rw [HR.out]; simp [tellP, numP])
        clear HR hky hkx hc2 hm im
        have l2 : strV atB = .string ⟨#[97, 116, 32]⟩ := rfl
        have l3 : strV colB = .string ⟨#[58, 32]⟩ := rfl
        have l4 : strV othB = .string ⟨#[111, 116, 104, 101, 114]⟩ := rfl
        have l5 : strV [] = .string ⟨#[]⟩ := rfl
        simp only [l2] at g1
        simp only [l3] at g2
        simp only [l5] at g3
        simp only [l4] at e1
        simp only [l5] at HW
        clear l2 l3 l4 l5
        generalize atB ++ Lib.itoa m ++ colB = q2 at *
        generalize atB ++ Lib.itoa m = q1 at *
        generalize [] ++ q2 = q3 at *
        generalize q3 ++ othB = fin at *
        go_enter Tryd.func40, Tryd.ntmps40
        go_wp2_with (first | (go_at_call 43; refine (HI.out _ (Ext.refl w)).mono ?_; rintro e w1 ⟨rfl, hx1⟩; have HX1 := Lib.hid hx1; clear hx1) | (go_at_call 42; refine (HP.out _ HX1.out).mono ?_; rintro e w3 ⟨rfl, hx3⟩; have HX3 := Lib.hid (HX1.out.trans hx3); clear hx3 HX1) | (go_at_call 75; refine (HT.out _ HX3.out m HM.out).mono ?_; rintro e w4 ⟨rfl, hx4⟩; have HX4 := Lib.hid (HX3.out.trans hx4); clear hx4) | (go_at_call 39; refine (HC.out _ HX4.out).mono ?_; rintro e w5 ⟨rfl, rfl⟩) | (go_at_call 45; refine (HW.out _ HX4.out).mono ?_; rintro e w6 ⟨rfl, hx6⟩; have HX6 := Lib.hid (HX4.out.trans hx6); clear hx6))
        go_ret
        exact ⟨by rw [HR2.out]; rfl, HX6.out⟩
    · rcases x with _ | m
      · have hk := hky k rfl
        have ik := itoa_len k hk
        have f1 := fun W => addS patB (Lib.itoa k) _ rfl (by decide) (by omega) W
        have f2 := fun W => addS (patB ++ Lib.itoa k) colB _ rfl (by simp [patB]; omega) (by decide) W
        have f3 := fun W => addS [] (patB ++ Lib.itoa k ++ colB) _ (List.nil_append _) (by decide) (by simp [patB, colB]; omega) W
        have HK := Lib.hid hk
        have e1 := fun W => addS ((patB ++ Lib.itoa k ++ colB)) othB _ rfl (by simp [patB, colB]; omega) (by decide) W
        have HR2 := Lib.hid (show res = ((patB ++ Lib.itoa k ++ colB)) ++ othB by rw [HR.out]; simp [tellP, numP])
        clear HR hky hkx hc2 hk ik
        have l1 : strV patB = .string ⟨#[112, 97, 116, 116, 101, 114, 110, 32]⟩ := rfl
        have l3 : strV colB = .string ⟨#[58, 32]⟩ := rfl
        have l4 : strV othB = .string ⟨#[111, 116, 104, 101, 114]⟩ := rfl
        have l5 : strV [] = .string ⟨#[]⟩ := rfl
        simp only [l1] at f1
        simp only [l3] at f2
        simp only [l5] at f3
        simp only [l4] at e1
        simp only [l5] at HW
        clear l1 l3 l4 l5
        generalize patB ++ Lib.itoa k ++ colB = p2 at *
        generalize patB ++ Lib.itoa k = p1 at *
        generalize p2 ++ othB = fin at *
        go_enter Tryd.func40, Tryd.ntmps40
        go_wp2_with (first | (go_at_call 43; refine (HI.out _ (Ext.refl w)).mono ?_; rintro e w1 ⟨rfl, hx1⟩; have HX1 := Lib.hid hx1; clear hx1) | (go_at_call 75; refine (HT.out _ HX1.out k HK.out).mono ?_; rintro e w2 ⟨rfl, hx2⟩; have HX2 := Lib.hid (HX1.out.trans hx2); clear hx2) | (go_at_call 42; refine (HP.out _ HX2.out).mono ?_; rintro e w3 ⟨rfl, hx3⟩; have HX3 := Lib.hid (HX2.out.trans hx3); clear hx3 HX2) | (go_at_call 39; refine (HC.out _ HX3.out).mono ?_; rintro e w5 ⟨rfl, rfl⟩) | (go_at_call 45; refine (HW.out _ HX3.out).mono ?_; rintro e w6 ⟨rfl, hx6⟩; have HX6 := Lib.hid (HX3.out.trans hx6); clear hx6))
        go_ret
        exact ⟨by rw [HR2.out]; rfl, HX6.out⟩
      · have hk := hky k rfl
        have ik := itoa_len k hk
        have f1 := fun W => addS patB (Lib.itoa k) _ rfl (by decide) (by omega) W
        have f2 := fun W => addS (patB ++ Lib.itoa k) colB _ rfl (by simp [patB]; omega) (by decide) W
        have f3 := fun W => addS [] (patB ++ Lib.itoa k ++ colB) _ (List.nil_append _) (by decide) (by simp [patB, colB]; omega) W
        have HK := Lib.hid hk
        have hm := hkx m rfl
        have im := itoa_len m hm
        have g1 := fun W => addS atB (Lib.itoa m) _ rfl (by decide) (by omega) W
        have g2 := fun W => addS (atB ++ Lib.itoa m) colB _ rfl (by simp [atB]; omega) (by decide) W
        have g3 := fun W => addS (patB ++ Lib.itoa k ++ colB) (atB ++ Lib.itoa m ++ colB) _ rfl (by simp [patB, colB]; omega) (by simp [atB, colB]; omega) W
        have HM := Lib.hid hm
        have e1 := fun W => addS ((patB ++ Lib.itoa k ++ colB) ++ (atB ++ Lib.itoa m ++ colB)) othB _ rfl (by simp [patB, atB, colB]; omega) (by decide) W
        have HR2 := Lib.hid (show res = ((patB ++ Lib.itoa k ++ colB) ++ (atB ++ Lib.itoa m ++ colB)) ++ othB by rw [HR.out]; simp [tellP, numP])
        clear HR hky hkx hc2 hk ik hm im
        have l1 : strV patB = .string ⟨#[112, 97, 116, 116, 101, 114, 110, 32]⟩ := rfl
        have l2 : strV atB = .string ⟨#[97, 116, 32]⟩ := rfl
        have l3 : strV colB = .string ⟨#[58, 32]⟩ := rfl
        have l4 : strV othB = .string ⟨#[111, 116, 104, 101, 114]⟩ := rfl
        have l5 : strV [] = .string ⟨#[]⟩ := rfl
        simp only [l1] at f1
        simp only [l3] at f2
        simp only [l5] at f3
        simp only [l2] at g1
        simp only [l3] at g2
        simp only [l4] at e1
        simp only [l5] at HW
        clear l1 l2 l3 l4 l5
        generalize patB ++ Lib.itoa k ++ colB = p2 at *
        generalize patB ++ Lib.itoa k = p1 at *
        generalize atB ++ Lib.itoa m ++ colB = q2 at *
        generalize atB ++ Lib.itoa m = q1 at *
        generalize p2 ++ q2 = q3 at *
        generalize q3 ++ othB = fin at *
        go_enter Tryd.func40, Tryd.ntmps40
        go_wp2_with (first | (go_at_call 43; refine (HI.out _ (Ext.refl w)).mono ?_; rintro e w1 ⟨rfl, hx1⟩; have HX1 := Lib.hid hx1; clear hx1) | (go_at_call 75; refine (HT.out _ HX1.out k HK.out).mono ?_; rintro e w2 ⟨rfl, hx2⟩; have HX2 := Lib.hid (HX1.out.trans hx2); clear hx2 HX1) | (go_at_call 42; refine (HP.out _ HX2.out).mono ?_; rintro e w3 ⟨rfl, hx3⟩; have HX3 := Lib.hid (HX2.out.trans hx3); clear hx3 HX2) | (go_at_call 75; refine (HT.out _ HX3.out m HM.out).mono ?_; rintro e w4 ⟨rfl, hx4⟩; have HX4 := Lib.hid (HX3.out.trans hx4); clear hx4) | (go_at_call 39; refine (HC.out _ HX4.out).mono ?_; rintro e w5 ⟨rfl, rfl⟩) | (go_at_call 45; refine (HW.out _ HX4.out).mono ?_; rintro e w6 ⟨rfl, hx6⟩; have HX6 := Lib.hid (HX4.out.trans hx6); clear hx6))
        go_ret
        exact ⟨by rw [HR2.out]; rfl, HX6.out⟩
  · subst hw
    rcases y with _ | k
    · rcases x with _ | m
      · have e1 := fun W => addS ([]) wo _ rfl (by decide) (by omega) W
        obtain ⟨sb, hs1, hs2⟩ : ∃ sb : ByteArray, strV wo = .string sb ∧ sb.toList = wo := ⟨⟨wo.toArray⟩, rfl, by rw [ByteArray.toList_eq]⟩
        have hs3 : sb.toList.isEmpty = false := by rw [hs2]; cases wo <;> simp_all
        simp only [hs1] at HW e1
        have HR2 := Lib.hid (show res = ([]) ++ wo by rw [HR.out]; simp [tellP, numP])
        clear HR hky hkx hc2 hc hs1 hs2
        have l5 : strV [] = .string ⟨#[]⟩ := rfl
        simp only [l5] at e1
        simp only [binOp_string_add] at e1
        clear  l5
        generalize [] ++ wo = fin at *
        go_enter Tryd.func40, Tryd.ntmps40
        go_wp2_with (first | (go_at_call 43; refine (HI.out _ (Ext.refl w)).mono ?_; rintro e w1 ⟨rfl, hx1⟩; have HX1 := Lib.hid hx1; clear hx1) | (go_at_call 42; refine (HP.out _ HX1.out).mono ?_; rintro e w3 ⟨rfl, hx3⟩; have HX3 := Lib.hid (HX1.out.trans hx3); clear hx3 HX1) | (go_at_call 39; refine (HC.out _ HX3.out).mono ?_; rintro e w5 ⟨rfl, rfl⟩) | (go_at_call 45; refine (HW.out _ HX3.out).mono ?_; rintro e w6 ⟨rfl, hx6⟩; have HX6 := Lib.hid (HX3.out.trans hx6); clear hx6))
        go_ret
        exact ⟨by rw [HR2.out]; rfl, HX6.out⟩
      · have hm := hkx m rfl
        have im := itoa_len m hm
        have g1 := fun W => addS atB (Lib.itoa m) _ rfl (by decide) (by omega) W
        have g2 := fun W => addS (atB ++ Lib.itoa m) colB _ rfl (by simp [atB]; omega) (by decide) W
        have g3 := fun W => addS [] (atB ++ Lib.itoa m ++ colB) _ rfl (by decide) (by simp [atB, colB]; omega) W
        have HM := Lib.hid hm
        have e1 := fun W => addS ([] ++ (atB ++ Lib.itoa m ++ colB)) wo _ rfl (by simp [atB, colB]; omega) (by omega) W
        obtain ⟨sb, hs1, hs2⟩ : ∃ sb : ByteArray, strV wo = .string sb ∧ sb.toList = wo := ⟨⟨wo.toArray⟩, rfl, by rw [ByteArray.toList_eq]⟩
        have hs3 : sb.toList.isEmpty = false := by rw [hs2]; cases wo <;> simp_all
        simp only [hs1] at HW e1
        have HR2 := Lib.hid (show res = ([] ++ (atB ++ Lib.itoa m ++ colB)) ++ wo by rw [HR.out]; simp [tellP, numP])
        clear HR hky hkx hc2 hm im hc hs1 hs2
        have l2 : strV atB = .string ⟨#[97, 116, 32]⟩ := rfl
        have l3 : strV colB = .string ⟨#[58, 32]⟩ := rfl
        have l5 : strV [] = .string ⟨#[]⟩ := rfl
        simp only [l2] at g1
        simp only [l3] at g2
        simp only [l5] at g3
        clear l2 l3 l5
        generalize atB ++ Lib.itoa m ++ colB = q2 at *
        generalize atB ++ Lib.itoa m = q1 at *
        generalize [] ++ q2 = q3 at *
        generalize q3 ++ wo = fin at *
        go_enter Tryd.func40, Tryd.ntmps40
        go_wp2_with (first | (go_at_call 43; refine (HI.out _ (Ext.refl w)).mono ?_; rintro e w1 ⟨rfl, hx1⟩; have HX1 := Lib.hid hx1; clear hx1) | (go_at_call 42; refine (HP.out _ HX1.out).mono ?_; rintro e w3 ⟨rfl, hx3⟩; have HX3 := Lib.hid (HX1.out.trans hx3); clear hx3 HX1) | (go_at_call 75; refine (HT.out _ HX3.out m HM.out).mono ?_; rintro e w4 ⟨rfl, hx4⟩; have HX4 := Lib.hid (HX3.out.trans hx4); clear hx4) | (go_at_call 39; refine (HC.out _ HX4.out).mono ?_; rintro e w5 ⟨rfl, rfl⟩) | (go_at_call 45; refine (HW.out _ HX4.out).mono ?_; rintro e w6 ⟨rfl, hx6⟩; have HX6 := Lib.hid (HX4.out.trans hx6); clear hx6))
        go_ret
        exact ⟨by rw [HR2.out]; rfl, HX6.out⟩
    · rcases x with _ | m
      · have hk := hky k rfl
        have ik := itoa_len k hk
        have f1 := fun W => addS patB (Lib.itoa k) _ rfl (by decide) (by omega) W
        have f2 := fun W => addS (patB ++ Lib.itoa k) colB _ rfl (by simp [patB]; omega) (by decide) W
        have f3 := fun W => addS [] (patB ++ Lib.itoa k ++ colB) _ (List.nil_append _) (by decide) (by simp [patB, colB]; omega) W
        have HK := Lib.hid hk
        have e1 := fun W => addS ((patB ++ Lib.itoa k ++ colB)) wo _ rfl (by simp [patB, colB]; omega) (by omega) W
        obtain ⟨sb, hs1, hs2⟩ : ∃ sb : ByteArray, strV wo = .string sb ∧ sb.toList = wo := ⟨⟨wo.toArray⟩, rfl, by rw [ByteArray.toList_eq]⟩
        have hs3 : sb.toList.isEmpty = false := by rw [hs2]; cases wo <;> simp_all
        simp only [hs1] at HW e1
        have HR2 := Lib.hid (show res = ((patB ++ Lib.itoa k ++ colB)) ++ wo by rw [HR.out]; simp [tellP, numP])
        clear HR hky hkx hc2 hk ik hc hs1 hs2
        have l1 : strV patB = .string ⟨#[112, 97, 116, 116, 101, 114, 110, 32]⟩ := rfl
        have l3 : strV colB = .string ⟨#[58, 32]⟩ := rfl
        have l5 : strV [] = .string ⟨#[]⟩ := rfl
        simp only [l1] at f1
        simp only [l3] at f2
        simp only [l5] at f3
        clear l1 l3 l5
        generalize patB ++ Lib.itoa k ++ colB = p2 at *
        generalize patB ++ Lib.itoa k = p1 at *
        generalize p2 ++ wo = fin at *
        go_enter Tryd.func40, Tryd.ntmps40
        go_wp2_with (first | (go_at_call 43; refine (HI.out _ (Ext.refl w)).mono ?_; rintro e w1 ⟨rfl, hx1⟩; have HX1 := Lib.hid hx1; clear hx1) | (go_at_call 75; refine (HT.out _ HX1.out k HK.out).mono ?_; rintro e w2 ⟨rfl, hx2⟩; have HX2 := Lib.hid (HX1.out.trans hx2); clear hx2) | (go_at_call 42; refine (HP.out _ HX2.out).mono ?_; rintro e w3 ⟨rfl, hx3⟩; have HX3 := Lib.hid (HX2.out.trans hx3); clear hx3 HX2) | (go_at_call 39; refine (HC.out _ HX3.out).mono ?_; rintro e w5 ⟨rfl, rfl⟩) | (go_at_call 45; refine (HW.out _ HX3.out).mono ?_; rintro e w6 ⟨rfl, hx6⟩; have HX6 := Lib.hid (HX3.out.trans hx6); clear hx6))
        go_ret
        exact ⟨by rw [HR2.out]; rfl, HX6.out⟩
      · have hk := hky k rfl
        have ik := itoa_len k hk
        have f1 := fun W => addS patB (Lib.itoa k) _ rfl (by decide) (by omega) W
        have f2 := fun W => addS (patB ++ Lib.itoa k) colB _ rfl (by simp [patB]; omega) (by decide) W
        have f3 := fun W => addS [] (patB ++ Lib.itoa k ++ colB) _ (List.nil_append _) (by decide) (by simp [patB, colB]; omega) W
        have HK := Lib.hid hk
        have hm := hkx m rfl
        have im := itoa_len m hm
        have g1 := fun W => addS atB (Lib.itoa m) _ rfl (by decide) (by omega) W
        have g2 := fun W => addS (atB ++ Lib.itoa m) colB _ rfl (by simp [atB]; omega) (by decide) W
        have g3 := fun W => addS (patB ++ Lib.itoa k ++ colB) (atB ++ Lib.itoa m ++ colB) _ rfl (by simp [patB, colB]; omega) (by simp [atB, colB]; omega) W
        have HM := Lib.hid hm
        have e1 := fun W => addS ((patB ++ Lib.itoa k ++ colB) ++ (atB ++ Lib.itoa m ++ colB)) wo _ rfl (by simp [patB, atB, colB]; omega) (by omega) W
        obtain ⟨sb, hs1, hs2⟩ : ∃ sb : ByteArray, strV wo = .string sb ∧ sb.toList = wo := ⟨⟨wo.toArray⟩, rfl, by rw [ByteArray.toList_eq]⟩
        have hs3 : sb.toList.isEmpty = false := by rw [hs2]; cases wo <;> simp_all
        simp only [hs1] at HW e1
        have HR2 := Lib.hid (show res = ((patB ++ Lib.itoa k ++ colB) ++ (atB ++ Lib.itoa m ++ colB)) ++ wo by rw [HR.out]; simp [tellP, numP])
        clear HR hky hkx hc2 hk ik hm im hc hs1 hs2
        have l1 : strV patB = .string ⟨#[112, 97, 116, 116, 101, 114, 110, 32]⟩ := rfl
        have l2 : strV atB = .string ⟨#[97, 116, 32]⟩ := rfl
        have l3 : strV colB = .string ⟨#[58, 32]⟩ := rfl
        have l5 : strV [] = .string ⟨#[]⟩ := rfl
        simp only [l1] at f1
        simp only [l3] at f2
        simp only [l5] at f3
        simp only [l2] at g1
        simp only [l3] at g2
        clear l1 l2 l3 l5
        generalize patB ++ Lib.itoa k ++ colB = p2 at *
        generalize patB ++ Lib.itoa k = p1 at *
        generalize atB ++ Lib.itoa m ++ colB = q2 at *
        generalize atB ++ Lib.itoa m = q1 at *
        generalize p2 ++ q2 = q3 at *
        generalize q3 ++ wo = fin at *
        go_enter Tryd.func40, Tryd.ntmps40
        go_wp2_with (first | (go_at_call 43; refine (HI.out _ (Ext.refl w)).mono ?_; rintro e w1 ⟨rfl, hx1⟩; have HX1 := Lib.hid hx1; clear hx1) | (go_at_call 75; refine (HT.out _ HX1.out k HK.out).mono ?_; rintro e w2 ⟨rfl, hx2⟩; have HX2 := Lib.hid (HX1.out.trans hx2); clear hx2 HX1) | (go_at_call 42; refine (HP.out _ HX2.out).mono ?_; rintro e w3 ⟨rfl, hx3⟩; have HX3 := Lib.hid (HX2.out.trans hx3); clear hx3 HX2) | (go_at_call 75; refine (HT.out _ HX3.out m HM.out).mono ?_; rintro e w4 ⟨rfl, hx4⟩; have HX4 := Lib.hid (HX3.out.trans hx4); clear hx4) | (go_at_call 39; refine (HC.out _ HX4.out).mono ?_; rintro e w5 ⟨rfl, rfl⟩) | (go_at_call 45; refine (HW.out _ HX4.out).mono ?_; rintro e w6 ⟨rfl, hx6⟩; have HX6 := Lib.hid (HX4.out.trans hx6); clear hx6))
        go_ret
        exact ⟨by rw [HR2.out]; rfl, HX6.out⟩

end Go.Proofs.YtkcgbdoplhgbmaaDoor
