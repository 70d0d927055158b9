/- trawlnum.Num of an error in links. Condition: where the error values lie. -/
import Derived.Test.YtkcgbdoplhgbmaaDoorFCode
namespace Go.Proofs.YtkcgbdoplhgbmaaDoor
open Go Go.RowKit Go.Extern.Stop Go.Stop Go.Extern

set_option maxRecDepth 100000 in
set_option maxHeartbeats 4000000 in
theorem num_ferr (A : Nat → Addr) (n : Int) (l : List (Bool × Int)) (v : Value) (w : World) (hf : FErr w A n l v) (h : ErrsAt w A) :
    Calls Tryd.prog 18 #[v] w fun r w' => r = .returned (.int .i64 (codeP n)) ∧ Ext w w' := by
  rcases hf with ⟨rfl, rfl⟩ | ⟨h0, a, h1, h2, h3, h4⟩
  · rw [show codeP 0 = 0 from rfl]
    clear h
    refine (num_nil w).mono ?_
    rintro e w5 ⟨rfl, rfl⟩
    exact ⟨rfl, Ext.refl _⟩
  have HK := Lib.hid (fun (k : Nat) (hk : k < 21) => ferr_is h0 h h3 h4 k hk)
  have HI := Lib.hid (fun (k : Nat) (hk : k < 21) (W : World) (hx : Ext w W) => is_chn l a (A k) v W (h1.ext hx) (by
    obtain ⟨c, t, h2⟩ := h2
    exact ⟨c, t, Blk.ext (t := t) (cs := c) h2 hx⟩) ((h.ext hx).blk k hk))
  obtain ⟨tv, xv, rfl⟩ := h1.isIf ⟨_, _, rfl⟩
  have H0 := Lib.hid h0
  have H := Lib.hid h
  clear h0 h1 h2 h3 h4
  have v0 := h.var 0 (by omega)
  have v1 := h.var 1 (by omega)
  have v2 := h.var 2 (by omega)
  have v3 := h.var 3 (by omega)
  have v4 := h.var 4 (by omega)
  have v5 := h.var 5 (by omega)
  have v6 := h.var 6 (by omega)
  have v7 := h.var 7 (by omega)
  have v8 := h.var 8 (by omega)
  have v9 := h.var 9 (by omega)
  have v10 := h.var 10 (by omega)
  have v11 := h.var 11 (by omega)
  have v12 := h.var 12 (by omega)
  have v13 := h.var 13 (by omega)
  have v14 := h.var 14 (by omega)
  have v15 := h.var 15 (by omega)
  have v16 := h.var 16 (by omega)
  have v17 := h.var 17 (by omega)
  have v18 := h.var 18 (by omega)
  have v19 := h.var 19 (by omega)
  have v20 := h.var 20 (by omega)
  simp only [gb, gbs, List.getD_cons_zero, List.getD_cons_succ] at v0 v1 v2 v3 v4 v5 v6 v7 v8 v9 v10 v11 v12 v13 v14 v15 v16 v17 v18 v19 v20
  clear h
  unfold errV at *
  go_enter Tryd.func18, Tryd.ntmps18
  go_wp2
  have hB : Blk (w.alloc (.cells (errsC A) 32)) w.heap.size 32 (errsC A) := Blk.new w _ _
  have hx : Ext w (w.alloc (.cells (errsC A) 32)) := (Ext.refl w).alloc _
  have hE : Hid (ErrsAt (w.alloc (.cells (errsC A) 32)) A) := Lib.hid (H.out.ext hx)
  clear v0 v1 v2 v3 v4 v5 v6 v7 v8 v9 v10 v11 v12 v13 v14 v15 v16 v17 v18 v19 v20 H
  have ew : w.alloc (.cells (errsC A) 32) = w.alloc (.cells #[.iface 138 (.pointer (some (A 0))), .iface 138 (.pointer (some (A 1))), .iface 138 (.pointer (some (A 2))), .iface 138 (.pointer (some (A 3))), .iface 138 (.pointer (some (A 4))), .iface 138 (.pointer (some (A 5))), .iface 138 (.pointer (some (A 6))), .iface 138 (.pointer (some (A 7))), .iface 138 (.pointer (some (A 8))), .iface 138 (.pointer (some (A 9))), .iface 138 (.pointer (some (A 10))), .iface 138 (.pointer (some (A 11))), .iface 138 (.pointer (some (A 12))), .iface 138 (.pointer (some (A 13))), .iface 138 (.pointer (some (A 14))), .iface 138 (.pointer (some (A 15))), .iface 138 (.pointer (some (A 16))), .iface 138 (.pointer (some (A 17))), .iface 138 (.pointer (some (A 18))), .iface 138 (.pointer (some (A 19))), .iface 138 (.pointer (some (A 20)))] 32) := rfl
  rw [← ew]
  clear ew
  have HX := Lib.hid hx
  have HIX := Lib.hid (fun (k : Nat) (hk : k < 21) => HI.out k hk _ hx)
  clear hx HI
  generalize w.alloc (.cells (errsC A) 32) = w1 at *
  generalize w.heap.size = G at *
  go_loop [4, 5, 6, 33] (fun f _ _ j => ∃ k : Nat, k ≤ 21 ∧ j = .int .i64 k ∧ ∃ F : Int, f = .int .i64 F ∧ Hid ((F = -1 ∧ ∀ i, i < k → n ≠ (i + 1 : Nat)) ∨ (F = n ∧ 1 ≤ n ∧ n ≤ k))) (fun _ _ _ j => 21 - (intOf j).toNat)
  case atStart => exact ⟨0, by omega, rfl, -1, rfl, Lib.hid (.inl ⟨rfl, fun i hi => absurd hi (Nat.not_lt_zero i)⟩)⟩
  case round =>
    obtain ⟨k, hk, rfl, F, rfl, HF⟩ := hrel
    by_cases hlt : k < 21
    · have c := hB.cell k
      rw [errsC_get A k hlt] at c
      unfold errV at c
      have hi := HIX.out k hlt
      by_cases hn : n = (k + 1 : Nat)
      · rw [decide_eq_true ((HK.out k hlt).2 hn)] at hi
        have HI2 := Lib.hid hi
        have HN := Lib.hid hn
        have eF : F = -1 := by
          rcases HF.out with ⟨h, _⟩ | ⟨_, _, h⟩
          · exact h
          · omega
        subst eF
        clear hi hn HIX HK HF
        go_wp2_with (go_at_call 63; refine HI2.out.mono ?_; rintro e w2 ⟨rfl, rfl⟩)
        go_round
        case rel => exact ⟨k + 1, hlt, by go_num, ((k + 1 : Nat) : Int), by go_num, Lib.hid (.inr ⟨HN.out.symm, by rw [HN.out]; omega, by rw [HN.out]; omega⟩)⟩
        case measure => simp [intOf]; omega
      · rw [decide_eq_false (fun e => hn ((HK.out k hlt).1 e))] at hi
        have HI2 := Lib.hid hi
        have HN := Lib.hid hn
        clear hi hn HIX HK
        go_wp2_with (go_at_call 63; refine HI2.out.mono ?_; rintro e w2 ⟨rfl, rfl⟩)
        go_round
        case rel => exact ⟨k + 1, hlt, by go_num, F, rfl, Lib.hid (by
          rcases HF.out with ⟨h, h'⟩ | ⟨h, h', h''⟩
          · refine .inl ⟨h, fun j hj => ?_⟩
            by_cases e : j = k
            · exact e ▸ HN.out
            · exact h' j (by omega)
          · exact .inr ⟨h, h', by omega⟩)⟩
        case measure => simp [intOf]; omega
    · have hc : F = codeP n := by
        rcases HF.out with ⟨h, h'⟩ | ⟨h, h', h''⟩
        · rw [h]
          refine (if_pos ?_).symm
          by_cases hr : 1 ≤ n ∧ n ≤ 21
          · exact absurd (show n = ((n.toNat - 1 + 1 : Nat) : Int) by omega) (h' (n.toNat - 1) (by omega))
          · have := H0.out
            omega
        · rw [h]
          exact (if_neg (by omega)).symm
      subst hc
      clear HF HIX HK
      go_wp2
      go_ret
      exact ⟨rfl, HX.out⟩

end Go.Proofs.YtkcgbdoplhgbmaaDoor
