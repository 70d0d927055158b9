/- The law's wrapped, code, sentinel; errors.New; fault.Code and trawlnum.Num of an error in links. Condition: where the error values lie. -/
import Derived.Test.YtkcgbdoplhgbmaaDoorFEr
import Derived.Test.YtkcgbdoplhgbmaaDoorFSen
import Derived.Test.YtkcgbdoplhgbmaaDoorLnk
import Derived.Test.YtkcgbdoplhgbmaaDoorNumErr
namespace Go.Proofs.YtkcgbdoplhgbmaaDoor
open Go Go.RowKit Go.Extern.Stop Go.Stop Go.Extern

set_option maxRecDepth 100000 in
set_option maxHeartbeats 2000000 in
theorem wrapped_any (A : Nat → Addr) (n : Int) (l ls : List (Bool × Int)) (v sv : Value) (w : World) (h : FErr w A n l v) (hr : RdK w sv ls) (hb : ls.length < 4611686018427387904) :
    Calls Tryd.prog 36 #[v, sv] w fun e w' => ∃ v', e = .returned v' ∧ Ext w w' ∧ FErr w' A n (ls.reverse ++ l) v' := by
  obtain ⟨a, c, rfl, hc⟩ := hr
  have HC := Lib.hid hc
  have H := Lib.hid h
  have HA := Lib.hid (fun (k : Int) (l' : List (Bool × Int)) (u : Value) (W : World) (g : FErr W A n l' u) => at_any k A n l' u W g)
  have HI := Lib.hid (fun (k : Int) (l' : List (Bool × Int)) (u : Value) (W : World) (g : FErr W A n l' u) => in_any k A n l' u W g)
  clear h hc
  go_enter Tryd.func36, Tryd.ntmps36
  go_wp2
  go_loopw [0, 6, 9] (fun u _ i wr => ∃ k : Nat, k ≤ ls.length ∧ i = .int .i64 k ∧ Hid (FErr wr A n ((ls.take k).reverse ++ l) u) ∧ Hid (Ext w wr)) (fun _ _ i _ => ls.length - (intOf i).toNat)
  case atStart => exact ⟨0, Nat.zero_le _, rfl, H, Lib.hid (Ext.refl w)⟩
  case round =>
    obtain ⟨k, hk, rfl, HF, HX⟩ := hrel
    by_cases hlt : k < ls.length
    · obtain ⟨g, o, rfl, c1, c2⟩ := HC.out k hlt
      have hT : (ls.take (k + 1)).reverse = ls.getD k (false, 0) :: (ls.take k).reverse := by
        have e : ls.take (k + 1) = ls.take k ++ [ls.getD k (false, 0)] := by
          rw [List.take_add_one, List.getD_eq_getElem?_getD, List.getElem?_eq_getElem hlt]; rfl
        rw [e, List.reverse_append]; rfl
      have HT := Lib.hid hT
      have d1 := HX.out.cell c1
      have d2 := HX.out.cell c2
      clear hT c1 c2 H
      generalize ls.getD k (false, 0) = x at *
      obtain ⟨i, m⟩ := x
      simp only at d1 d2
      have q1 : IntKind.i64.wrap ((k : Int) + 1) = ((k + 1 : Nat) : Int) := by rw [IntKind.wrap_i64]; omega
      cases i
      · have HN := Lib.hid (HA.out m _ _ _ (HF.out.ext ((Ext.refl wr).alloc (.cells #[.bool false, .int .i64 m] 66))))
        clear HA HI HC
        go_wp2_with (go_at_call 47; refine HN.out.mono ?_; rintro e w5 ⟨v5, rfl, hx5, hf5⟩; have HX5 := Lib.hid hx5; have HF5 := Lib.hid hf5; clear hx5 hf5)
        go_round
        case rel => exact ⟨k + 1, hlt, rfl, Lib.hid (by rw [HT.out]; exact HF5.out), Lib.hid ((HX.out.alloc _).trans HX5.out)⟩
        case measure => simp [intOf]; omega
      · have HN := Lib.hid (HI.out m _ _ _ (HF.out.ext ((Ext.refl wr).alloc (.cells #[.bool true, .int .i64 m] 66))))
        clear HA HI HC
        go_wp2_with (go_at_call 48; refine HN.out.mono ?_; rintro e w5 ⟨v5, rfl, hx5, hf5⟩; have HX5 := Lib.hid hx5; have HF5 := Lib.hid hf5; clear hx5 hf5)
        go_round
        case rel => exact ⟨k + 1, hlt, rfl, Lib.hid (by rw [HT.out]; exact HF5.out), Lib.hid ((HX.out.alloc _).trans HX5.out)⟩
        case measure => simp [intOf]; omega
    · have hkl : k = ls.length := by omega
      clear HA HI HC
      go_wp2
      go_ret
      refine ⟨_, rfl, HX.out, ?_⟩
      have := HF.out
      rw [hkl, List.take_length] at this
      exact this

theorem code_law (n : Int) (w : World) : Calls Tryd.prog 38 #[.int .i64 n] w fun e w' => e = .returned (.int .i64 (codeP n)) ∧ w = w' := by
  by_cases h0 : n < 0
  · rw [show codeP n = -1 from if_pos (Or.inl h0)]
    go_enter Tryd.func38, Tryd.ntmps38
    go_wp2
    go_ret
    exact ⟨rfl, rfl⟩
  · by_cases h1 : 21 < n
    · rw [show codeP n = -1 from if_pos (Or.inr h1)]
      go_enter Tryd.func38, Tryd.ntmps38
      go_wp2
      go_ret
      exact ⟨rfl, rfl⟩
    · rw [show codeP n = n from if_neg (by omega)]
      go_enter Tryd.func38, Tryd.ntmps38
      go_wp2
      go_ret
      exact ⟨rfl, rfl⟩

theorem new_any (s : ByteArray) (w : World) : Calls Tryd.prog 73 #[.string s] w fun e w' => e = .returned (errV ⟨w.heap.size, 0, none⟩) ∧ w' = w.alloc (.cells #[.string s] 140) := by
  go_enter Tryd.func73, Tryd.ntmps73
  go_wp2
  go_ret
  exact ⟨rfl, rfl⟩

end Go.Proofs.YtkcgbdoplhgbmaaDoor
