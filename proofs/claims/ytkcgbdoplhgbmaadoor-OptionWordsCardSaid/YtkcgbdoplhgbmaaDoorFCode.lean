/- The law's sentinel; fault.Code and trawlnum.Num of an error in links. Condition: where the error values lie. -/
import Derived.Test.YtkcgbdoplhgbmaaDoorFWrp
namespace Go.Proofs.YtkcgbdoplhgbmaaDoor
open Go Go.RowKit Go.Extern.Stop Go.Stop Go.Extern

def lsenC (A : Nat → Addr) : Array Value := (.nilIface :: (List.range 21).map fun i => errV (A i)).toArray
theorem lsenC_zero (A : Nat → Addr) : (lsenC A)[0]? = some .nilIface := rfl
theorem lsenC_get (A : Nat → Addr) (i : Nat) (h : i < 21) : (lsenC A)[i + 1]? = some (errV (A i)) := by unfold lsenC; simp [h]

set_option maxRecDepth 100000 in
set_option maxHeartbeats 4000000 in
theorem lsent_any (A : Nat → Addr) (n : Int) (w : World) (h : ErrsAt w A) (hn : -9223372036854775808 ≤ n ∧ n ≤ 9223372036854775807) :
    Calls Tryd.prog 37 #[.int .i64 n] w fun e w' => ∃ v, e = .returned v ∧ Ext w w' ∧ FErr w' A n [] v := by
  have H := Lib.hid h
  have v0 := h.var 0 (by omega)
  have v1 := h.var 1 (by omega)
  have v2 := h.var 2 (by omega)
  have v3 := h.var 3 (by omega)
  have v4 := h.var 4 (by omega)
  have v5 := h.var 5 (by omega)
  have v6 := h.var 6 (by omega)
  have v7 := h.var 7 (by omega)
  have v8 := h.var 8 (by omega)
  have v9 := h.var 9 (by omega)
  have v10 := h.var 10 (by omega)
  have v11 := h.var 11 (by omega)
  have v12 := h.var 12 (by omega)
  have v13 := h.var 13 (by omega)
  have v14 := h.var 14 (by omega)
  have v15 := h.var 15 (by omega)
  have v16 := h.var 16 (by omega)
  have v17 := h.var 17 (by omega)
  have v18 := h.var 18 (by omega)
  have v19 := h.var 19 (by omega)
  have v20 := h.var 20 (by omega)
  simp only [gb, gbs, List.getD_cons_zero, List.getD_cons_succ] at v0 v1 v2 v3 v4 v5 v6 v7 v8 v9 v10 v11 v12 v13 v14 v15 v16 v17 v18 v19 v20
  clear h
  unfold errV at *
  go_enter Tryd.func37, Tryd.ntmps37
  go_upto_region 2 with fail
  have ew : w.alloc (.cells (lsenC A) 32) = w.alloc (.cells #[.nilIface, .iface 138 (.pointer (some (A 0))), .iface 138 (.pointer (some (A 1))), .iface 138 (.pointer (some (A 2))), .iface 138 (.pointer (some (A 3))), .iface 138 (.pointer (some (A 4))), .iface 138 (.pointer (some (A 5))), .iface 138 (.pointer (some (A 6))), .iface 138 (.pointer (some (A 7))), .iface 138 (.pointer (some (A 8))), .iface 138 (.pointer (some (A 9))), .iface 138 (.pointer (some (A 10))), .iface 138 (.pointer (some (A 11))), .iface 138 (.pointer (some (A 12))), .iface 138 (.pointer (some (A 13))), .iface 138 (.pointer (some (A 14))), .iface 138 (.pointer (some (A 15))), .iface 138 (.pointer (some (A 16))), .iface 138 (.pointer (some (A 17))), .iface 138 (.pointer (some (A 18))), .iface 138 (.pointer (some (A 19))), .iface 138 (.pointer (some (A 20)))] 32) := rfl
  rw [← ew]
  have hB := Blk.new w 32 (lsenC A)
  have HX : Hid (Ext w (w.alloc (.cells (lsenC A) 32))) := Lib.hid ((Ext.refl w).alloc _)
  clear ew v0 v1 v2 v3 v4 v5 v6 v7 v8 v9 v10 v11 v12 v13 v14 v15 v16 v17 v18 v19 v20
  generalize w.alloc (.cells (lsenC A) 32) = w1 at *
  generalize w.heap.size = G at *
  by_cases hr : 0 ≤ n ∧ n ≤ 21
  · obtain ⟨m, rfl⟩ := Int.eq_ofNat_of_zero_le hr.1
    cases m with
    | zero =>
      have c := hB.cell 0
      rw [lsenC_zero] at c
      clear hB hr hn
      go_wp2
      go_ret
      exact ⟨_, rfl, HX.out, .inl ⟨rfl, rfl⟩⟩
    | succ m =>
      have c := hB.cell (m + 1)
      rw [lsenC_get A m (by omega)] at c
      unfold errV at c
      have hm : m < 21 := by omega
      have q1 : ¬ ((m + 1 : Nat) : Int) < 0 := by omega
      have q2 : ((m + 1 : Nat) : Int) < 22 := by omega
      clear hB hr hn
      go_wp2
      go_ret
      refine ⟨_, rfl, HX.out, .inr ⟨by omega, A m, rfl, (H.out.ext HX.out).blk m hm, fun _ _ => ?_, fun hc => by omega⟩⟩
      congr 1
  · have HN := Lib.hid (fun s => new_any s w1)
    have HR := Lib.hid hr
    unfold errV at HN
    have hs : ∀ i, i < 21 → A i ≠ ⟨w1.heap.size, 0, none⟩ := fun i hi he => by
      obtain ⟨c, t, hb⟩ := (H.out.ext HX.out).blk i hi
      have := Blk.lt (t := t) (cs := c) hb
      rw [he] at this
      simp at this
    have HS := Lib.hid hs
    clear hs hB
    by_cases h0 : n < 0
    · clear hr
      go_wp2_with (go_at_call 73; refine (HN.out _).mono ?_; rintro e w5 ⟨rfl, rfl⟩)
      go_ret
      exact ⟨_, rfl, HX.out.alloc _, .inr ⟨by omega, ⟨w1.heap.size, 0, none⟩, rfl, ⟨_, _, Blk.new w1 _ _⟩, fun h1 h2 => absurd h1 (by omega), fun _ => HS.out⟩⟩
    · have q2 : ¬ n < 22 := by omega
      clear hr
      go_wp2_with (go_at_call 73; refine (HN.out _).mono ?_; rintro e w5 ⟨rfl, rfl⟩)
      go_ret
      exact ⟨_, rfl, HX.out.alloc _, .inr ⟨by omega, ⟨w1.heap.size, 0, none⟩, rfl, ⟨_, _, Blk.new w1 _ _⟩, fun h1 h2 => absurd h2 (by omega), fun _ => HS.out⟩⟩

/-- Whether errors.Is finds the error value k - 1. -/
theorem ferr_is {w : World} {A : Nat → Addr} {n : Int} {a : Addr} (h0 : n ≠ 0) (hE : ErrsAt w A) (h3 : 1 ≤ n → n ≤ 21 → a = A (n.toNat - 1)) (h4 : n < 0 ∨ 21 < n → ∀ i, i < 21 → A i ≠ a) (k : Nat) (hk : k < 21) : (a = A k) ↔ n = (k + 1 : Nat) := by
  by_cases hr : 1 ≤ n ∧ n ≤ 21
  · rw [h3 hr.1 hr.2]
    constructor
    · intro e
      by_cases hne : n.toNat - 1 = k
      · omega
      · exact absurd e (hE.ne _ _ (by omega) hk hne)
    · intro e
      congr 1
      omega
  · constructor
    · intro e
      exact absurd e.symm (h4 (by omega) k hk)
    · intro e
      omega

set_option maxRecDepth 100000 in
set_option maxHeartbeats 2000000 in
theorem code_any (A : Nat → Addr) (n : Int) (l : List (Bool × Int)) (v : Value) (w : World) (h : FErr w A n l v) (hE : ErrsAt w A) :
    Calls Tryd.prog 39 #[v] w fun e w' => e = .returned (.int .i64 (codeP n)) ∧ w = w' := by
  rcases h with ⟨rfl, rfl⟩ | ⟨h0, a, h1, h2, h3, h4⟩
  · rw [show codeP 0 = 0 from rfl]
    clear hE
    go_enter Tryd.func39, Tryd.ntmps39
    go_wp2
    go_ret
    exact ⟨rfl, rfl⟩
  · have HK := Lib.hid (fun (k : Nat) (hk : k < 21) => ferr_is h0 hE h3 h4 k hk)
    have HS := Lib.hid (fun (k : Nat) (hk : k < 21) => (show senV A ((k + 1 : Nat) : Int) = errV (A k) by
      unfold senV
      rw [if_pos (by omega)]
      rfl) ▸ senti_any A ((k + 1 : Nat) : Int) w hE)
    have HI := Lib.hid (fun (k : Nat) (hk : k < 21) => is_chn l a (A k) v w h1 h2 (hE.blk k hk))
    obtain ⟨tv, xv, rfl⟩ := h1.isIf ⟨_, _, rfl⟩
    have H0 := Lib.hid h0
    clear h0 h1 h2 h3 h4 hE
    unfold errV at HS HI
    go_enter Tryd.func39, Tryd.ntmps39
    go_wp2
    go_loop [3] (fun i => ∃ k : Nat, k ≤ 21 ∧ i = .int .i64 ((k + 1 : Nat) : Int) ∧ Hid (∀ j, j < k → n ≠ (j + 1 : Nat))) (fun i => 22 - (intOf i).toNat)
    case atStart => exact ⟨0, by omega, rfl, Lib.hid (fun j hj => absurd hj (Nat.not_lt_zero j))⟩
    case round =>
      obtain ⟨k, hk, rfl, HF⟩ := hrel
      by_cases hlt : k < 21
      · have hs := HS.out k hlt
        have hi := HI.out k hlt
        have q0 : ((k + 1 : Nat) : Int) ≤ 21 := by omega
        by_cases hn : n = (k + 1 : Nat)
        · rw [decide_eq_true ((HK.out k hlt).2 hn)] at hi
          have HS2 := Lib.hid hs
          have HI2 := Lib.hid hi
          have HN := Lib.hid hn
          clear hs hi hn HS HI HK HF
          go_wp2_with (first | (go_at_call 74; refine HS2.out.mono ?_; rintro e w5 ⟨rfl, rfl⟩) | (go_at_call 63; refine HI2.out.mono ?_; rintro e w5 ⟨rfl, rfl⟩))
          go_ret
          exact ⟨by rw [HN.out, show codeP ((k + 1 : Nat) : Int) = ((k + 1 : Nat) : Int) from if_neg (by omega)]; rfl, rfl⟩
        · rw [decide_eq_false (fun e => hn ((HK.out k hlt).1 e))] at hi
          have HS2 := Lib.hid hs
          have HI2 := Lib.hid hi
          have HN := Lib.hid hn
          clear hs hi hn HS HI HK
          go_wp2_with (first | (go_at_call 74; refine HS2.out.mono ?_; rintro e w5 ⟨rfl, rfl⟩) | (go_at_call 63; refine HI2.out.mono ?_; rintro e w5 ⟨rfl, rfl⟩))
          go_round
          case rel => exact ⟨k + 1, hlt, by go_num, Lib.hid (fun j hj => by
            by_cases e : j = k
            · exact e ▸ HN.out
            · exact HF.out j (by omega))⟩
          case measure => simp [intOf]; omega
      · have q0 : ¬ ((k + 1 : Nat) : Int) ≤ 21 := by omega
        have hc : codeP n = -1 := by
          refine if_pos ?_
          by_cases hr : 1 ≤ n ∧ n ≤ 21
          · exact absurd (show n = ((n.toNat - 1 + 1 : Nat) : Int) by omega) (HF.out (n.toNat - 1) (by omega))
          · have := H0.out
            omega
        have HC := Lib.hid hc
        clear hc HS HI HK HF
        go_wp2
        go_ret
        exact ⟨by rw [HC.out]; rfl, rfl⟩

end Go.Proofs.YtkcgbdoplhgbmaaDoor
