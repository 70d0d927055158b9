/- trawlnum.Num as a contract: of nil, and of each of the 21 error values. No condition but where these lie. -/
import Derived.Test.YtkcgbdoplhgbmaaDoorErrs
namespace Go.Proofs.YtkcgbdoplhgbmaaDoor
open Go.RowKit

def errsC (A : Nat → Addr) : Array Value := ((List.range 21).map fun i => errV (A i)).toArray
theorem errsC_get (A : Nat → Addr) (i : Nat) (h : i < 21) : (errsC A)[i]? = some (errV (A i)) := by unfold errsC; simp [h]

theorem num_nil (w : World) : Calls Tryd.prog 18 #[.nilIface] w fun r w' => r = .returned (.int .i64 0) ∧ w = w' := by
  go_enter Tryd.func18, Tryd.ntmps18
  go_wp2
  go_ret
  exact ⟨rfl, rfl⟩

set_option maxRecDepth 100000 in
set_option maxHeartbeats 4000000 in
theorem num_err (A : Nat → Addr) (i : Nat) (w : World) (hi : i < 21) (h : ErrsAt w A) :
    Calls Tryd.prog 18 #[errV (A i)] w fun r w' => r = .returned (.int .i64 (i + 1 : Nat)) ∧ Ext w w' := by
  have H := Lib.hid h
  have v0 := h.var 0 (by omega)
  have v1 := h.var 1 (by omega)
  have v2 := h.var 2 (by omega)
  have v3 := h.var 3 (by omega)
  have v4 := h.var 4 (by omega)
  have v5 := h.var 5 (by omega)
  have v6 := h.var 6 (by omega)
  have v7 := h.var 7 (by omega)
  have v8 := h.var 8 (by omega)
  have v9 := h.var 9 (by omega)
  have v10 := h.var 10 (by omega)
  have v11 := h.var 11 (by omega)
  have v12 := h.var 12 (by omega)
  have v13 := h.var 13 (by omega)
  have v14 := h.var 14 (by omega)
  have v15 := h.var 15 (by omega)
  have v16 := h.var 16 (by omega)
  have v17 := h.var 17 (by omega)
  have v18 := h.var 18 (by omega)
  have v19 := h.var 19 (by omega)
  have v20 := h.var 20 (by omega)
  simp only [gb, gbs, List.getD_cons_zero, List.getD_cons_succ] at v0 v1 v2 v3 v4 v5 v6 v7 v8 v9 v10 v11 v12 v13 v14 v15 v16 v17 v18 v19 v20
  clear h
  unfold errV at *
  go_enter Tryd.func18, Tryd.ntmps18
  go_wp2
  have hB : Blk (w.alloc (.cells (errsC A) 32)) w.heap.size 32 (errsC A) := Blk.new w _ _
  have hx : Ext w (w.alloc (.cells (errsC A) 32)) := (Ext.refl w).alloc _
  have hE : Hid (ErrsAt (w.alloc (.cells (errsC A) 32)) A) := Lib.hid (H.out.ext hx)
  clear v0 v1 v2 v3 v4 v5 v6 v7 v8 v9 v10 v11 v12 v13 v14 v15 v16 v17 v18 v19 v20 H
  have ew : w.alloc (.cells (errsC A) 32) = w.alloc (.cells #[.iface 138 (.pointer (some (A 0))), .iface 138 (.pointer (some (A 1))), .iface 138 (.pointer (some (A 2))), .iface 138 (.pointer (some (A 3))), .iface 138 (.pointer (some (A 4))), .iface 138 (.pointer (some (A 5))), .iface 138 (.pointer (some (A 6))), .iface 138 (.pointer (some (A 7))), .iface 138 (.pointer (some (A 8))), .iface 138 (.pointer (some (A 9))), .iface 138 (.pointer (some (A 10))), .iface 138 (.pointer (some (A 11))), .iface 138 (.pointer (some (A 12))), .iface 138 (.pointer (some (A 13))), .iface 138 (.pointer (some (A 14))), .iface 138 (.pointer (some (A 15))), .iface 138 (.pointer (some (A 16))), .iface 138 (.pointer (some (A 17))), .iface 138 (.pointer (some (A 18))), .iface 138 (.pointer (some (A 19))), .iface 138 (.pointer (some (A 20)))] 32) := rfl
  rw [← ew]
  clear ew
  generalize w.alloc (.cells (errsC A) 32) = w1 at *
  generalize w.heap.size = G at *
  go_loop [4, 5, 6, 33] (fun f _ _ j => ∃ k : Nat, k ≤ 21 ∧ j = .int .i64 k ∧ f = .int .i64 (if i < k then ((i + 1 : Nat) : Int) else -1)) (fun _ _ _ j => 21 - (intOf j).toNat)
  case atStart => exact ⟨0, by omega, rfl, by rw [if_neg (by omega)]⟩
  case round =>
    obtain ⟨k, hk, rfl, rfl⟩ := hrel
    by_cases hlt : k < 21
    · have c := hB.cell k
      rw [errsC_get A k hlt] at c
      unfold errV at c
      by_cases hki : k = i
      · subst hki
        have e : (if k < k then ((k + 1 : Nat) : Int) else -1) = -1 := if_neg (by omega)
        rw [e]
        clear e
        have hS := Lib.hid (fun W => is_same (A k) W)
        unfold errV at hS
        go_wp2_with (go_at_call 63; refine (hS.out _).mono ?_; rintro e w2 ⟨rfl, rfl⟩)
        go_round
        case rel => exact ⟨k + 1, hlt, by go_num, by rw [if_pos (by omega)]; go_num⟩
        case measure => simp [intOf]; omega
      · have hO := Lib.hid (fun (W : World) (hW : W = w1) => by
          subst hW
          obtain ⟨ca, ta, ha⟩ := hE.out.blk i hi
          obtain ⟨cb, tb, hb⟩ := hE.out.blk k hlt
          exact is_other (A i) (A k) ca cb ta tb W (hE.out.ne i k hi hlt (fun e => hki e.symm)) ha hb)
        unfold errV at hO
        have e : (if i < k then ((i + 1 : Nat) : Int) else -1) = (if i < k + 1 then ((i + 1 : Nat) : Int) else -1) := by
          by_cases h : i < k
          · rw [if_pos h, if_pos (by omega)]
          · rw [if_neg h, if_neg (by omega)]
        have HE := Lib.hid e
        clear e
        generalize (if i < k then ((i + 1 : Nat) : Int) else -1) = y at *
        go_wp2_with (go_at_call 63; refine (hO.out _ rfl).mono ?_; rintro e w2 ⟨rfl, rfl⟩)
        go_round
        case rel => exact ⟨k + 1, hlt, by go_num, by rw [HE.out]⟩
        case measure => simp [intOf]; omega
    · have e : (if i < k then ((i + 1 : Nat) : Int) else -1) = ((i + 1 : Nat) : Int) := if_pos (by omega)
      rw [e]
      clear e
      go_wp2
      go_ret
      exact ⟨rfl, hx⟩

end Go.Proofs.YtkcgbdoplhgbmaaDoor
