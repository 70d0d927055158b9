/- The law OctetMakes as a walk. Conditions: where the table of math/bits lies; the text is no longer than a process's memory. -/
import Derived.Test.YteahmkhmkalimaaDoorOMakeA
namespace Go.Proofs.YteahmkhmkalimaaDoor
open Go.RowKit

theorem rHas_a (p : Nat → Bool) (b : Nat) (w : World) (hb : b < 256) :
    Calls Tryd.prog 18 #[.agg #[.int .u64 (wd p 0 : Int), .int .u64 (wd p 1 : Int), .int .u64 (wd p 2 : Int), .int .u64 (wd p 3 : Int)], .int .u8 (b : Int)] w fun r w' => r = .returned (.bool (p b)) ∧ Ext w w' := rHas_any p b w hb
theorem has_o (p : Nat → Bool) (b : Nat) (w : World) (hb : b < 256) :
    Calls Tryd.prog 17 #[.agg #[.int .u64 (wd p 0 : Int), .int .u64 (wd p 1 : Int), .int .u64 (wd p 2 : Int), .int .u64 (wd p 3 : Int)], .int .u8 (b : Int)] w fun r w' => r = .returned (.bool (p b)) ∧ Ext w w' := has_any p b w hb
theorem count_o (p : Nat → Bool) (w : World) :
    Calls Tryd.prog 15 #[.agg #[.int .u64 (wd p 0 : Int), .int .u64 (wd p 1 : Int), .int .u64 (wd p 2 : Int), .int .u64 (wd p 3 : Int)]] w fun r w' => r = .returned (.int .i64 (cntB p 256)) ∧ Ext w w' := count_any p w
theorem rCount_o (p : Nat → Bool) (w : World) :
    Calls Tryd.prog 16 #[.agg #[.int .u64 (wd p 0 : Int), .int .u64 (wd p 1 : Int), .int .u64 (wd p 2 : Int), .int .u64 (wd p 3 : Int)]] w fun r w' => r = .returned (.int .i64 (cntB p 256)) ∧ Ext w w' := rCount_any p w
theorem first_o (p : Nat → Bool) (w : World) (hT : Tab w) :
    Calls Tryd.prog 19 #[.agg #[.int .u64 (wd p 0 : Int), .int .u64 (wd p 1 : Int), .int .u64 (wd p 2 : Int), .int .u64 (wd p 3 : Int)]] w fun r w' => r = .returned (fstV (fstB p 256 0)) ∧ Ext w w' := first_any p w hT
theorem rFirst_o (p : Nat → Bool) (w : World) :
    Calls Tryd.prog 20 #[.agg #[.int .u64 (wd p 0 : Int), .int .u64 (wd p 1 : Int), .int .u64 (wd p 2 : Int), .int .u64 (wd p 3 : Int)]] w fun r w' => r = .returned (.int .i64 (fstI (fstB p 256 0))) ∧ Ext w w' := rFirst_any p w
theorem range_o (lo hi : Nat) (w : World) (hlo : lo < 256) (hhi : hi < 256) :
    Calls Tryd.prog 13 #[.int .u8 lo, .int .u8 hi] w fun r w' => r = .returned (.agg #[.int .u64 (wd (rangeB lo hi) 0 : Int), .int .u64 (wd (rangeB lo hi) 1 : Int), .int .u64 (wd (rangeB lo hi) 2 : Int), .int .u64 (wd (rangeB lo hi) 3 : Int)]) ∧ Ext w w' := range_any lo hi w hlo hhi
theorem rRange_o (lo hi : Nat) (w : World) (hlo : lo < 256) (hhi : hi < 256) :
    Calls Tryd.prog 14 #[.int .u8 lo, .int .u8 hi] w fun r w' => r = .returned (.agg #[.int .u64 (wd (rangeB lo hi) 0 : Int), .int .u64 (wd (rangeB lo hi) 1 : Int), .int .u64 (wd (rangeB lo hi) 2 : Int), .int .u64 (wd (rangeB lo hi) 3 : Int)]) ∧ Ext w w' := rRange_any lo hi w hlo hhi
theorem of_o (l : List Nat) (v : Value) (w : World) (hv : RdB w v l) (hb : ∀ j, l.getD j 0 < 256) (hl : l.length ≤ 140737488355327) :
    Calls Tryd.prog 11 #[v] w fun r w' => r = .returned (.agg #[.int .u64 (wd (ofL l) 0 : Int), .int .u64 (wd (ofL l) 1 : Int), .int .u64 (wd (ofL l) 2 : Int), .int .u64 (wd (ofL l) 3 : Int)]) ∧ Ext w w' := of_big l v w hv hb hl
theorem rOf_o (s : ByteArray) (w : World) (hs : s.size ≤ 9223372036854775807) :
    Calls Tryd.prog 12 #[.string s] w fun r w' => r = .returned (.agg #[.int .u64 (wd (ofL (byteL s)) 0 : Int), .int .u64 (wd (ofL (byteL s)) 1 : Int), .int .u64 (wd (ofL (byteL s)) 2 : Int), .int .u64 (wd (ofL (byteL s)) 3 : Int)]) ∧ Ext w w' := rOf_any s w hs

theorem info_u8 : (Tryd.prog.info? 5).map (fun i => (i.zero, i.size, i.bytes)) = some (some (.int .u8 0), 1, 1) := by kernel_rfl

theorem fstB_lt (p : Nat → Bool) : ∀ (f k j : Nat), fstB p f k = some j → j < k + f
  | 0, _, _, h => by simp [fstB] at h
  | f + 1, k, j, h => by
    unfold fstB at h
    split at h
    · simp only [Option.some.injEq] at h; omega
    · have := fstB_lt p f (k + 1) j h; omega
theorem fstB_small (p : Nat → Bool) (k : Nat) (h : fstB p 256 0 = some k) : k < 256 := by simpa using fstB_lt p 256 0 k h

set_option maxRecDepth 100000 in
set_option maxHeartbeats 8000000 in
theorem makes_core (s : ByteArray) (lo hi : Nat) (p : Nat → Bool) (w : World) (hs : s.size ≤ 140737488351232) (hlo : lo < 256) (hhi : hi < 256) (hT : Tab w) :
    Calls Tryd.prog 3 #[.string s, .int .u8 (lo : Int), .int .u8 (hi : Int), .agg #[.int .u64 (wd p 0 : Int), .int .u64 (wd p 1 : Int), .int .u64 (wd p 2 : Int), .int .u64 (wd p 3 : Int)]] w fun r w' => r = .returned (.bool true) ∧ Ext w w' := by
  have HL := Lib.hid (fun W => octetLives_any W)
  have hcv := fun (W : World) => run_bytes_of_string (P := Tryd.prog) W 9 26 5 s Tryd.underlying9 Tryd.underlying26 Tryd.underlying5
  have B0 : Blk (w.alloc (.cells #[.int .u64 (wd p 0 : Int), .int .u64 (wd p 1 : Int), .int .u64 (wd p 2 : Int), .int .u64 (wd p 3 : Int)] 24)) w.heap.size 24 (setC p) := Blk.new w _ _
  have X0 : Ext w (w.alloc (.cells #[.int .u64 (wd p 0 : Int), .int .u64 (wd p 1 : Int), .int .u64 (wd p 2 : Int), .int .u64 (wd p 3 : Int)] 24)) := (Ext.refl w).alloc _
  go_enter Tryd.func3, Tryd.ntmps3
  go_upto_region 4 with (go_at_call 10; refine (HL.out _).mono ?_; rintro e w1 ⟨rfl, hx1⟩)
  have hx2 : Ext w ((w1.alloc (.cells (bytesRow s (grownCap w1 s.size 0 5)) 5 ((bytesRow s (grownCap w1 s.size 0 5)).size, (bytesRow s (grownCap w1 s.size 0 5)).size + 1))).drew) := ((X0.trans hx1).alloc _).drew
  have hB2 : Blk ((w1.alloc (.cells (bytesRow s (grownCap w1 s.size 0 5)) 5 ((bytesRow s (grownCap w1 s.size 0 5)).size, (bytesRow s (grownCap w1 s.size 0 5)).size + 1))).drew) w.heap.size 24 (setC p) := (B0.ext hx1).alloc _
  have hl2 : ∀ j u, (cB (byteL s))[j]? = some u → ((w1.alloc (.cells (bytesRow s (grownCap w1 s.size 0 5)) 5 ((bytesRow s (grownCap w1 s.size 0 5)).size, (bytesRow s (grownCap w1 s.size 0 5)).size + 1))).drew).cell? ⟨w1.heap.size, j, none⟩ = some u := fun j u hj => by
    have hjl : j < s.size := by
      have := (List.getElem?_eq_some_iff.1 hj).1
      rw [cB_len, byteL_len] at this
      exact this
    rw [cB_get _ _ (by rw [byteL_len]; exact hjl)] at hj
    rw [← hj]
    exact rd_bytes w1 s _ _ _ j hjl
  generalize ((w1.alloc (.cells (bytesRow s (grownCap w1 s.size 0 5)) 5 ((bytesRow s (grownCap w1 s.size 0 5)).size, (bytesRow s (grownCap w1 s.size 0 5)).size + 1))).drew) = w2 at *
  generalize grownCap w1 s.size 0 5 = cap at *
  generalize w1.heap.size = g at *
  clear hcv hx1 B0 X0
  have hB3 := hB2.alloc (.cells #[] 5)
  have hx3 := hx2.alloc (.cells #[] 5)
  have hl3 : ∀ j u, (cB (byteL s))[j]? = some u → (w2.alloc (.cells #[] 5)).cell? ⟨g, j, none⟩ = some u := fun j u hj => ((Ext.refl w2).alloc _).cell (hl2 j u hj)
  have own0 : Own1 (w2.alloc (.cells #[] 5)) w2.heap.size 5 (.slice (some ⟨w2.heap.size, 0, none⟩) 0 0) [] := ⟨rfl, .inr ⟨w2.heap.size, 0, #[], rfl, Nat.le_refl _, heap_alloc_new w2 _, Nat.le_refl _, Nat.zero_le _, rfl, rfl⟩⟩
  have hgw : w.heap.size < w2.heap.size := hB2.lt
  go_upto_region 5 with (first
    | (at_builtin; refine wpList_appB rfl (.tmp 18) (.tmp 19) 26 rfl w2.heap.size 5 (.int .u8 0) Tryd.underlying26 info_u8 rfl _ [] (cB (byteL s)) rfl own0 g s.size cap rfl (by rw [cB_len, byteL_len]) hl3 (fun u hu => by unfold cB at hu; obtain ⟨b, _, rfl⟩ := List.mem_map.1 hu; rfl) (by simp; omega) (by simp) ?_; intro v4 w4 own4 hb4; have hz4 : w2.heap.size ≤ w4.heap.size := Nat.le_trans (Nat.le_succ _) (by simpa using hb4.size))
    | (at_builtin; refine wpList_app1 rfl (.tmp 20) (.tmp 21) 26 rfl w2.heap.size 5 (.int .u8 0) 1 Tryd.underlying26 info_u8 rfl _ _ rfl (own4.ext ((Ext.refl w4).alloc _)) w4.heap.size 1 (.int .u8 7) rfl (by simp) rfl (by simp [cB_len, byteL_len]; omega) (by simp [cB_len, byteL_len]; omega) (by simp; omega) ?_; intro v5 w5 own5 hb5))
  have hy4 : Ext w2 w4 := Ext.of_below ((Ext.refl w2).alloc _) hb4 (Nat.le_refl _)
  have hy5 : Ext w2 w5 := Ext.of_below (hy4.alloc _) hb5 (Nat.le_refl _)
  have hB5 := hB2.ext hy5
  have hx5 := hx2.trans hy5
  have hc5 := fun j u (h : (cB (byteL s))[j]? = some u) => hy5.cell (hl2 j u h)
  rcases own5.2 with ⟨_, h0⟩ | ⟨g5, cap5, cur, rfl, _, _, hnc, hcm, _⟩
  · simp at h0
  have hlen5 : ([] ++ cB (byteL s) ++ [Value.int .u8 7]).length = s.size + 1 := by simp [cB_len, byteL_len]
  have own6 : Own1 w5 w2.heap.size 5 (.slice (some ⟨g5, 0, none⟩) (s.size + 1) cap5) (cB (byteL s ++ [7])) := by
    have e : [] ++ cB (byteL s) ++ [Value.int .u8 7] = cB (byteL s ++ [7]) := by simp [cB]
    rw [hlen5, e] at own5
    exact own5
  rw [hlen5] at hnc ⊢
  have hrd : RdB w5 (.slice (some ⟨g5, 0, none⟩) s.size cap5) (byteL s) := by
    have := RdB.of_own own6 cap5
    rwa [byteL_len] at this
  obtain ⟨hcell5, hc7⟩ : (∀ j, j < s.size → w5.cell? ⟨g5, j, none⟩ = some (.int .u8 ((byteL s).getD j 0 : Nat))) ∧ w5.cell? ⟨g5, s.size, none⟩ = some (.int .u8 7) := by
    obtain ⟨g', cap', hv, _, _, hc⟩ := own6.form (by rw [cB_len]; simp)
    simp only [Value.slice.injEq, Option.some.injEq, Addr.mk.injEq] at hv
    obtain ⟨⟨rfl, _, _⟩, _, _⟩ := hv
    refine ⟨fun j hj => ?_, ?_⟩
    · rw [hc j _ (cB_get _ j (by rw [List.length_append, byteL_len]; omega)), List.getD_eq_getElem?_getD, List.getElem?_append_left (by rw [byteL_len]; exact hj), ← List.getD_eq_getElem?_getD]
    · rw [hc s.size _ (cB_get _ _ (by rw [List.length_append, byteL_len]; simp)), List.getD_eq_getElem?_getD, List.getElem?_append_right (by rw [byteL_len]; omega), byteL_len]
      simp
  have hcs : ∀ W, Ext w5 W → (convert 26 9 (.slice (some ⟨g5, 0, none⟩) s.size cap5)).run Tryd.prog W = .ok (.string s) W := fun W hW => by
    have := run_convert_bytes_back (P := Tryd.prog) W 26 9 5 ⟨g5, 0, none⟩ cap5 s.data.toList Tryd.underlying26 Tryd.underlying5 Tryd.underlying9 (fun j hj => by
      have hj' : j < s.size := by simpa using hj
      have ea : (⟨g5, 0, none⟩ : Addr).add j = ⟨g5, j, none⟩ := by unfold Addr.add; split <;> simp_all
      rw [ea, hW.cell (hcell5 j hj'), byteL_get s j hj']
      rfl)
    simpa using this
  have hcs := Lib.hid hcs
  have HO := Lib.hid (fun W h => of_o (byteL s) (.slice (some ⟨g5, 0, none⟩) s.size cap5) W h (byteL_lt s) (by rw [byteL_len]; omega))
  have HP := Lib.hid (fun W => rOf_o s W (by omega))
  have HR := Lib.hid (fun W => range_o lo hi W hlo hhi)
  have HS := Lib.hid (fun W => rRange_o lo hi W hlo hhi)
  have hnq := neq_same
  have hrd := Lib.hid hrd
  have d1 : (0 : Int) ≤ (s.size : Int) := by omega
  have d2 : (s.size : Int) ≤ (cap5 : Int) := by omega
  have d3 : (s.size : Int) < (s.size + 1 : Nat) := by omega
  have d4 : s.size ≤ cap5 := by omega
  clear hB2 hB3 hl3 hl2 own0 own4 own5 own6 hb4 hb5 hy4 hy5 hx2 hx3 hc5 hcell5 hlen5 hnc hcm hz4 hgw
  generalize rangeB lo hi = rg at *
  generalize ofL (byteL s) = ob at *
  go_upto_region 7 with (first
    | (go_at_call 11; refine (HO.out _ hrd.out).mono ?_; rintro e w6 ⟨rfl, hx6⟩)
    | (go_at_call 12; refine (HP.out _).mono ?_; rintro e w7 ⟨rfl, hx7⟩; have hx67 := hx6.trans hx7; have hcs7 := hcs.out _ hx67; have hc77 := hx67.cell hc7)
    | (go_at_call 13; refine (HR.out _).mono ?_; rintro e w8 ⟨rfl, hx8⟩)
    | (go_at_call 14; refine (HS.out _).mono ?_; rintro e w9 ⟨rfl, hx9⟩))
  have hy9 : Ext w5 w9 := ((hx67.trans hx8).trans hx9)
  have hB9 := hB5.ext hy9
  have hx99 := hx5.trans hy9
  have hT9 := Lib.hid (hT.ext hx99)
  clear hB5 hx5 hy9 hx67 hx6 hx7 hx8 hx9 hcs hcs7 hc7 hc77 hrd HO HP HR HS HL hnq hT d1 d2 d3 d4
  have H1 := Lib.hid (fun W => count_o p W)
  have H2 := Lib.hid (fun W => rCount_o p W)
  have H3 := Lib.hid (fun W => has_o p lo W hlo)
  have H4 := Lib.hid (fun W => rHas_a p lo W hlo)
  have H5 := Lib.hid (fun W => has_o p hi W hhi)
  have H6 := Lib.hid (fun W => rHas_a p hi W hhi)
  have H7 := Lib.hid (fun W h => first_o p W h)
  have H8 := Lib.hid (fun W => rFirst_o p W)
  have hflt : ∀ k, fstB p 256 0 = some k → k < 256 := fstB_small p
  generalize fstB p 256 0 = fo at *
  generalize p lo = vl at *
  generalize p hi = vh at *
  generalize cntB p 256 = c at *
  obtain ⟨a0, a1, a2, a3, _, _, _, _⟩ := setC_cells hB9
  have p0 := cell_plus a0
  have p1 := cell_plus a1
  have p2 := cell_plus a2
  have p3 := cell_plus a3
  clear a0 a1 a2 a3
  refine wp_region_plus (by kernel_rfl) (by kernel_rfl) ?_
  repeat (go_big_quiet_step (first
    | (go_at_call 15; exact Calls.plus_of (H1.out _))
    | (go_at_call 16; exact Calls.plus_of (H2.out _))
    | (go_at_call 17; with_reducible exact Calls.plus_of (H3.out _))
    | (go_at_call 18; with_reducible exact Calls.plus_of (H4.out _))
    | (go_at_call 17; with_reducible exact Calls.plus_of (H5.out _))
    | (go_at_call 18; with_reducible exact Calls.plus_of (H6.out _))))
  refine wpQuiet_nil ?_
  intro y
  have hx10 := plus_ext w9 y
  have hBy := hB9.ext hx10
  have hTy := Lib.hid (hT9.out.ext hx10)
  have hxy := hx99.trans hx10
  clear p0 p1 p2 p3 hB9 hT9 hx99 hx10 H1 H2 H3 H4 H5 H6
  generalize plus w9 y = w10 at *
  obtain ⟨a0, a1, a2, a3, _, _, _, _⟩ := setC_cells hBy
  cases fo with
  | none =>
    unfold fstV at H7
    unfold fstI at H8
    go_wp2_with (first
      | (go_at_call 19; refine (H7.out _ hTy.out).mono ?_; rintro e w11 ⟨rfl, hx11⟩; obtain ⟨a0, a1, a2, a3, _, _, _, _⟩ := setC_cells (hBy.ext hx11))
      | (go_at_call 20; refine (H8.out _).mono ?_; rintro e w12 ⟨rfl, hx12⟩))
    go_ret
    exact ⟨rfl, (hxy.trans hx11).trans hx12⟩
  | some k =>
    have hk := hflt k rfl
    unfold fstV at H7
    unfold fstI at H8
    have k1 : (0 : Int) ≤ (k : Int) := by omega
    go_wp2_with (first
      | (go_at_call 19; refine (H7.out _ hTy.out).mono ?_; rintro e w11 ⟨rfl, hx11⟩; obtain ⟨a0, a1, a2, a3, _, _, _, _⟩ := setC_cells (hBy.ext hx11))
      | (go_at_call 20; refine (H8.out _).mono ?_; rintro e w12 ⟨rfl, hx12⟩))
    go_ret
    exact ⟨rfl, (hxy.trans hx11).trans hx12⟩

theorem octetMakes_walk (s : ByteArray) (lo hi : Int) (p : Nat → Bool) (hs : s.size ≤ 140737488351232) (wl : (Lit.int .u8 lo).wf = true) (wh : (Lit.int .u8 hi).wf = true) (w : World) (hT : Tab w) :
    Calls Tryd.prog 3 #[.string s, .int .u8 lo, .int .u8 hi, setV p] w fun r w' => r = .returned (.bool true) ∧ Ext w w' := by
  obtain ⟨h0, h1⟩ : 0 ≤ lo ∧ lo ≤ 255 := by simpa [Lit.wf, IntKind.min, IntKind.max, IntKind.signed, IntKind.bits] using wl
  obtain ⟨h2, h3⟩ : 0 ≤ hi ∧ hi ≤ 255 := by simpa [Lit.wf, IntKind.min, IntKind.max, IntKind.signed, IntKind.bits] using wh
  obtain ⟨n, rfl⟩ := Int.eq_ofNat_of_zero_le h0
  obtain ⟨m, rfl⟩ := Int.eq_ofNat_of_zero_le h2
  exact makes_core s n m p w hs (by omega) (by omega) hT

end Go.Proofs.YteahmkhmkalimaaDoor
