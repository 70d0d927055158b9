/- The words of a number: fault.Word and trawlref03.Words. Condition: where the error values lie. -/
import Derived.Test.YtkcgbdoplhgbmaaDoorFSen
import Derived.Test.YtkcgbdoplhgbmaaDoorBytes
namespace Go.Proofs.YtkcgbdoplhgbmaaDoor
open Go Go.RowKit Go.Extern.Stop Go.Stop Go.Extern

def wrdL : List (List UInt8) := [[111, 107], [98, 114, 97, 99, 107, 101, 116], [112, 97, 114, 101, 110, 116, 104, 101, 115, 105, 115], [98, 114, 97, 99, 101], [99, 111, 117, 110, 116], [114, 97, 110, 103, 101], [99, 108, 97, 115, 115], [99, 111, 108, 108, 97, 116, 105, 110, 103], [101, 115, 99, 97, 112, 101], [114, 101, 112, 101, 97, 116], [116, 111, 111, 32, 98, 105, 103], [110, 101, 115, 116, 105, 110, 103], [108, 111, 110, 103], [116, 114, 101, 101], [100, 101, 101, 112], [97, 114, 103, 117, 109, 101, 110, 116], [110, 111, 32, 109, 97, 116, 99, 104], [105, 109, 97, 103, 101], [109, 97, 110, 121], [111, 112, 116, 105, 111, 110], [99, 111, 109, 109, 97, 110, 100], [99, 108, 111, 115, 101, 100]]
/-- The words of a number; none: there is no such one. -/
def wrdP (n : Int) : List UInt8 := if 0 ≤ n ∧ n ≤ 21 then wrdL.getD n.toNat [] else []
def wrdC : Array Value := (wrdL.map strV).toArray
theorem wrdC_eq : wrdC = #[.string ⟨#[111, 107]⟩, .string ⟨#[98, 114, 97, 99, 107, 101, 116]⟩, .string ⟨#[112, 97, 114, 101, 110, 116, 104, 101, 115, 105, 115]⟩, .string ⟨#[98, 114, 97, 99, 101]⟩, .string ⟨#[99, 111, 117, 110, 116]⟩, .string ⟨#[114, 97, 110, 103, 101]⟩, .string ⟨#[99, 108, 97, 115, 115]⟩, .string ⟨#[99, 111, 108, 108, 97, 116, 105, 110, 103]⟩, .string ⟨#[101, 115, 99, 97, 112, 101]⟩, .string ⟨#[114, 101, 112, 101, 97, 116]⟩, .string ⟨#[116, 111, 111, 32, 98, 105, 103]⟩, .string ⟨#[110, 101, 115, 116, 105, 110, 103]⟩, .string ⟨#[108, 111, 110, 103]⟩, .string ⟨#[116, 114, 101, 101]⟩, .string ⟨#[100, 101, 101, 112]⟩, .string ⟨#[97, 114, 103, 117, 109, 101, 110, 116]⟩, .string ⟨#[110, 111, 32, 109, 97, 116, 99, 104]⟩, .string ⟨#[105, 109, 97, 103, 101]⟩, .string ⟨#[109, 97, 110, 121]⟩, .string ⟨#[111, 112, 116, 105, 111, 110]⟩, .string ⟨#[99, 111, 109, 109, 97, 110, 100]⟩, .string ⟨#[99, 108, 111, 115, 101, 100]⟩] := rfl
theorem wrdC_get (k : Nat) (h : k < 22) : wrdC[k]? = some (strV (wrdL.getD k [])) := by
  have hl : wrdL.length = 22 := rfl
  unfold wrdC
  rw [List.getElem?_toArray, List.getElem?_map, List.getD_eq_getElem?_getD, List.getElem?_eq_getElem (by omega)]
  rfl
theorem wrd_text : ∀ k : Fin 21, (errTexts.getD k.val []).drop 7 = wrdL.getD (k.val + 1) [] := by decide +kernel
theorem wrd_len : ∀ k : Fin 21, 7 ≤ (errTexts.getD k.val []).length := by decide +kernel
theorem wrdP_len (n : Int) : (wrdP n).length ≤ 20 := by
  unfold wrdP
  split
  · rename_i h
    have hall : ∀ k : Fin 22, (wrdL.getD k.val []).length ≤ 20 := by decide +kernel
    exact hall ⟨n.toNat, by omega⟩
  · simp

set_option maxRecDepth 100000 in
set_option maxHeartbeats 2000000 in
theorem rwords_any (n : Int) (w : World) :
    Calls Tryd.prog 46 #[.int .i64 n] w fun e w' => e = .returned (strV (wrdP n)) ∧ Ext w w' := by
  go_enter Tryd.func46, Tryd.ntmps46
  go_upto_region 2 with fail
  rw [← wrdC_eq]
  have hB := Blk.new w 9 wrdC
  have HX : Hid (Ext w (w.alloc (.cells wrdC 9))) := Lib.hid ((Ext.refl w).alloc _)
  generalize w.alloc (.cells wrdC 9) = w1 at *
  generalize w.heap.size = G at *
  by_cases hr : 0 ≤ n ∧ n ≤ 21
  · obtain ⟨m, rfl⟩ := Int.eq_ofNat_of_zero_le hr.1
    have c := hB.cell m
    rw [wrdC_get m (by omega)] at c
    have hP : wrdP (m : Int) = wrdL.getD m [] := if_pos hr
    have HP := Lib.hid hP
    have q2 : (m : Int) < 22 := by omega
    clear hB hr hP
    generalize wrdL.getD m [] = s at *
    go_wp2
    go_ret
    exact ⟨by rw [HP.out]; rfl, HX.out⟩
  · have hP : wrdP n = [] := if_neg hr
    have HP := Lib.hid hP
    clear hP hB
    by_cases h0 : n < 0
    · clear hr
      go_wp2
      go_ret
      exact ⟨by rw [HP.out]; rfl, HX.out⟩
    · have q2 : ¬ n < 22 := by omega
      clear hr
      go_wp2
      go_ret
      exact ⟨by rw [HP.out]; rfl, HX.out⟩

theorem strV_cut (s : ByteArray) : Value.string (s.extract 7 s.size) = strV (s.data.toList.drop 7) := by
  unfold strV
  congr 1
  apply ByteArray.ext
  apply Array.toList_inj.1
  rw [Lib.extract_data]
  rw [List.take_of_length_le (by rw [List.length_drop, Array.length_toList]; exact Nat.le_refl _)]
theorem etext_any (a : Addr) (s : ByteArray) (w : World) (h : w.cell? a = some (.string s)) :
    Calls Tryd.prog 178 #[.pointer (some a)] w fun e w' => e = .returned (.string s) ∧ w = w' := by
  go_enter Tryd.func178, Tryd.ntmps178
  go_wp2
  go_ret
  exact ⟨rfl, rfl⟩

set_option maxRecDepth 100000 in
set_option maxHeartbeats 2000000 in
theorem word_any (A : Nat → Addr) (n : Int) (w : World) (h : ErrsAt w A) :
    Calls Tryd.prog 45 #[.int .i64 n] w fun e w' => e = .returned (strV (wrdP n)) ∧ Ext w w' := by
  have HS := Lib.hid (senti_any A n w h)
  by_cases h0 : n = 0
  · subst h0
    clear h HS
    go_enter Tryd.func45, Tryd.ntmps45
    go_wp2
    go_ret
    exact ⟨rfl, Ext.refl _⟩
  by_cases hr : 1 ≤ n ∧ n ≤ 21
  · obtain ⟨m, rfl⟩ : ∃ m : Nat, n = ((m + 1 : Nat) : Int) := ⟨n.toNat - 1, by omega⟩
    have hm : m < 21 := by omega
    obtain ⟨s, hs1, hs2⟩ := h.txt m hm
    have hw : wrdP ((m + 1 : Nat) : Int) = (errTexts.getD m []).drop 7 := by
      rw [wrd_text ⟨m, hm⟩]
      exact if_pos (by omega)
    have hl := wrd_len ⟨m, hm⟩
    simp only at hl
    rw [← hs2] at hw hl
    have HW := Lib.hid hw
    have hsz : 7 ≤ s.size := hl
    have hv : senV A ((m + 1 : Nat) : Int) = .iface 138 (.pointer (some (A m))) := by
      unfold senV
      rw [if_pos (by omega)]
      rfl
    rw [hv] at HS
    have HE := Lib.hid (etext_any (A m) s w hs1)
    have q0 : ¬ ((m + 1 : Nat) : Int) = 0 := by omega
    clear h h0 hr hs1 hs2 hw hl hv
    go_enter Tryd.func45, Tryd.ntmps45
    go_wp2_with (first | (go_at_call 74; refine HS.out.mono ?_; rintro e w5 ⟨rfl, rfl⟩) | (go_at_call 178; refine HE.out.mono ?_; rintro e w5 ⟨rfl, rfl⟩))
    go_ret
    refine ⟨?_, Ext.refl _⟩
    rw [HW.out]
    exact congrArg Ending.returned (strV_cut s)
  · have hv : senV A n = .nilIface := if_neg hr
    rw [hv] at HS
    have HP := Lib.hid (show wrdP n = [] from if_neg (by omega))
    clear h hr hv
    go_enter Tryd.func45, Tryd.ntmps45
    go_wp2_with (go_at_call 74; refine HS.out.mono ?_; rintro e w5 ⟨rfl, rfl⟩)
    go_ret
    exact ⟨by rw [HP.out]; rfl, Ext.refl _⟩

end Go.Proofs.YtkcgbdoplhgbmaaDoor
