/- tree.size as a contract. Condition: the tree lies in memory, its lists are short, it is in form. -/
import Derived.Test.YtgfknlkpdiejgaaDoorSizeP
namespace Go.Proofs.YtgfknlkpdiejgaaDoor
open Go.RowKit

theorem min_if (a : Int) : Min.min a 2001 = if 2001 < a then 2001 else a := by rw [Int.min_def]; split <;> split <;> omega
theorem node_cells0 {W : World} {b : Nat} {t : TypeId} {v0 v1 v2 v3 v4 v5 v6 v7 v8 v9 : Value} (h : Blk W b t #[v0, v1, v2, v3, v4, v5, v6, v7, v8, v9]) :
    W.cell? ⟨b, 0, none⟩ = some v0 ∧ W.cell? ⟨b, 1, none⟩ = some v1 ∧ W.cell? ⟨b, 2, none⟩ = some v2 ∧ W.cell? ⟨b, 3, none⟩ = some v3 ∧ W.cell? ⟨b, 4, none⟩ = some v4 ∧ W.cell? ⟨b, 5, none⟩ = some v5 ∧ W.cell? ⟨b, 6, none⟩ = some v6 ∧ W.cell? ⟨b, 7, none⟩ = some v7 ∧ W.cell? ⟨b, 8, none⟩ = some v8 ∧ W.cell? ⟨b, 9, none⟩ = some v9 :=
  ⟨h.cell 0, h.cell 1, h.cell 2, h.cell 3, h.cell 4, h.cell 5, h.cell 6, h.cell 7, h.cell 8, h.cell 9⟩

set_option maxRecDepth 100000 in
set_option maxHeartbeats 4000000 in
theorem size_any : ∀ (n : Nd) (sv : Value) (w : World), NdOk w n sv → smallN n → formB n = true →
    Calls Tryd.prog 18 #[nodeV n.h sv] w fun r w' => r = .returned (.int .i64 (sizeN n)) ∧ Ext w w' := by
  refine Nd.ind fun hd subs ih sv w hn hsm hfm => ?_
  unfold NdOk at hn
  obtain ⟨A, c, rfl, hs⟩ := hn
  obtain ⟨hlen, hsm⟩ := hsm
  rw [formB, Bool.and_eq_true] at hfm
  obtain ⟨hfd, hfl⟩ := hfm
  have IH := Lib.hid (fun n hm sv w hn hf => ih n hm sv w hn (smallL_mem hsm n hm) hf)
  have HS := Lib.hid hs
  have HFL := Lib.hid hfl
  clear ih hs hsm hfl
  show Calls _ _ #[nodeV hd _] _ _
  have hrep := fun hk => formed_rep hfd hk
  have hsz : sizeN (.mk hd subs) = if hd.kind = 8 ∧ hd.max = 0 then 1 else Min.min (if hd.kind = 8 then roundsZ hd (sizeA 0 subs) else sizeA 0 subs + 1) 2001 := by rw [sizeN]
  have HZ := Lib.hid hsz
  have HRO := Lib.hid (fun m W (hk : hd.kind = 8) (h0 : 0 ≤ m) (h1 : m ≤ 2001) => rounds_any hd (.slice A subs.length c) m W (hrep hk).1 (hrep hk).2.1 (hrep hk).2.2 h0 h1 ⟨A, _, c, rfl⟩)
  clear hsz hfd
  generalize hss : sizeN (.mk hd subs) = ss at *
  clear hss
  obtain ⟨kind, set, num, mn, mx, bare⟩ := hd
  unfold nodeV at *
  simp only at *
  go_enter Tryd.func18, Tryd.ntmps18
  go_upto_region 2 with fail
  have nb := Blk.new w 27 #[.int .i64 kind, .int .u64 (wd set 0 : Int), .int .u64 (wd set 1 : Int), .int .u64 (wd set 2 : Int), .int .u64 (wd set 3 : Int), .slice A subs.length c, .int .i64 num, .int .i64 mn, .int .i64 mx, .bool bare]
  have hx1 := (Ext.refl w).alloc (.cells #[.int .i64 kind, .int .u64 (wd set 0 : Int), .int .u64 (wd set 1 : Int), .int .u64 (wd set 2 : Int), .int .u64 (wd set 3 : Int), .slice A subs.length c, .int .i64 num, .int .i64 mn, .int .i64 mx, .bool bare] 27)
  generalize w.alloc (.cells #[.int .i64 kind, .int .u64 (wd set 0 : Int), .int .u64 (wd set 1 : Int), .int .u64 (wd set 2 : Int), .int .u64 (wd set 3 : Int), .slice A subs.length c, .int .i64 num, .int .i64 mn, .int .i64 mx, .bool bare] 27) = w1 at *
  generalize w.heap.size = b at *
  have c0 := nb.cell 0
  have c5 := nb.cell 5
  have c8 := nb.cell 8
  simp only [List.getElem?_toArray, List.getElem?_cons_succ, List.getElem?_cons_zero] at c0 c5 c8
  have NB := Lib.hid nb
  clear nb
  by_cases h80 : kind = 8 ∧ mx = 0
  · obtain ⟨rfl, rfl⟩ := h80
    have HZ2 := Lib.hid (show ss = 1 by rw [HZ.out]; simp)
    clear HZ HRO
    go_wp2
    go_ret
    exact ⟨by rw [HZ2.out]; rfl, hx1⟩
  · have hcd : (kind = 8 ∧ mx ≠ 0) ∨ kind ≠ 8 := by omega
    have hx11 : Ext w1 w1 := Ext.refl w1
    rcases hcd with ⟨rfl, hm⟩ | hk
    all_goals
      go_upto_region 4 with fail
      go_wp2
      go_loopw [3, 17] (fun a i wr => ∃ k : Nat, k ≤ subs.length ∧ i = .int .i64 k ∧ a = .int .i64 (sizeA 0 (subs.take k)) ∧ Ext w wr ∧ Ext w1 wr) (fun _ i _ => subs.length - (intOf i).toNat)
      case atStart => exact ⟨0, Nat.zero_le _, rfl, by rw [List.take_zero, sizeA], hx1, hx11⟩
      case round =>
        obtain ⟨k, hk', rfl, rfl, hx, hx2⟩ := hrel
        have hfk : formL (subs.take k) = true := by
          have h1 := HFL.out
          rw [← List.take_append_drop k subs, formL_app, Bool.and_eq_true] at h1
          exact h1.1
        obtain ⟨r1, r2⟩ := sizeA_range (subs.take k) 0 hfk (by omega) (by omega)
        clear hfk
        by_cases hlt : k < subs.length
        · obtain ⟨g, o, sv, rfl, hcell, hok⟩ := HS.out.get k hlt
          obtain ⟨A2, c2, rfl⟩ := hok.shape
          have hfn : formB subs[k] = true := by
            have h1 := HFL.out
            rw [← List.take_append_drop (k + 1) subs, formL_app, take_snoc subs k hlt, formL_app, formL_one, Bool.and_eq_true, Bool.and_eq_true] at h1
            exact h1.1.2
          obtain ⟨r3, r4⟩ := sizeN_range _ hfn
          have hstep : sizeA 0 (subs.take (k + 1)) = Min.min (sizeA 0 (subs.take k) + sizeN subs[k]) 2001 := by rw [take_snoc subs k hlt, sizeA_app, sizeA, sizeA]
          have IHk := Lib.hid (fun w' (hw' : Ext w w') => IH.out subs[k] (List.getElem_mem hlt) _ w' (NdOk.ext hw' _ _ hok) hfn)
          obtain ⟨e0, e1, e2, e3, e4, e5, e6, e7, e8, e9⟩ := node_cells hx hcell
          have c5' := hx2.cell c5
          have HST := Lib.hid hstep
          clear hstep hok hcell IH HS HZ HRO NB hfn HFL c5
          generalize subs[k] = nk at *
          obtain ⟨⟨k2, t2, n2, mn2, mx2, b2⟩, sub2⟩ := nk
          simp only [Nd.h] at *
          generalize (Nd.mk ⟨k2, t2, n2, mn2, mx2, b2⟩ sub2).subs.length = len2 at *
          generalize sizeN (.mk ⟨k2, t2, n2, mn2, mx2, b2⟩ sub2) = res at *
          generalize sizeA 0 (subs.take k) = acc at *
          have d1 : (k : Int) < (subs.length : Int) := by omega
          have q1 : IntKind.i64.wrap (acc + res) = acc + res := by rw [IntKind.wrap_i64]; omega
          go_upto_region 7 with fail
          have hx4 := hx.alloc (.cells #[.int .i64 k2, .int .u64 (wd t2 0 : Int), .int .u64 (wd t2 1 : Int), .int .u64 (wd t2 2 : Int), .int .u64 (wd t2 3 : Int), .slice A2 len2 c2, .int .i64 n2, .int .i64 mn2, .int .i64 mx2, .bool b2] 27)
          have hx5 := hx2.alloc (.cells #[.int .i64 k2, .int .u64 (wd t2 0 : Int), .int .u64 (wd t2 1 : Int), .int .u64 (wd t2 2 : Int), .int .u64 (wd t2 3 : Int), .slice A2 len2 c2, .int .i64 n2, .int .i64 mn2, .int .i64 mx2, .bool b2] 27)
          go_wp2_with (go_at_call 18; refine (IHk.out _ hx4).mono ?_; rintro e w' ⟨rfl, hx'⟩)
          go_roundw
          case rel => exact ⟨k + 1, by omega, by go_num, by rw [HST.out, min_if], hx4.trans hx', hx5.trans hx'⟩
          case measure => simp [intOf]; omega
        · have hkl : subs.take k = subs := List.take_of_length_le (by omega)
          rw [hkl] at r1 r2 ⊢
          generalize sizeA 0 subs = tot at *
          have d1 : ¬ (k : Int) < (subs.length : Int) := by omega
          first
            | (have hs8 := Lib.hid (show ss = Min.min (roundsZ ⟨8, set, num, mn, mx, bare⟩ tot) 2001 by rw [HZ.out]; simp [hm])
               obtain ⟨s0, s1, s2, s3, s4, s5, s6, s7, s8, s9⟩ := node_cells0 (NB.out.ext hx2)
               have HR2 := Lib.hid (fun W => HRO.out tot W (by trivial) r1 r2)
               generalize roundsZ ⟨8, set, num, mn, mx, bare⟩ tot = rz at *
               clear HRO HZ IH HS HFL NB
               by_cases hz : 2001 < rz
               all_goals
                 go_wp2_with (go_at_call 32; refine (HR2.out _).mono ?_; rintro e w' ⟨rfl, hx'⟩)
                 go_ret
                 exact ⟨by rw [hs8.out, min_if]; first | (simp [hz]; done) | (simp; omega), hx.trans hx'⟩)
            | (have hs9 := Lib.hid (show ss = Min.min (tot + 1) 2001 by rw [HZ.out]; simp [hk])
               have q1 : IntKind.i64.wrap (tot + 1) = tot + 1 := by rw [IntKind.wrap_i64]; omega
               have c0' := hx2.cell c0
               clear HRO HZ IH HS HFL NB
               by_cases hz : 2001 < tot + 1
               all_goals
                 go_wp2
                 go_ret
                 exact ⟨by rw [hs9.out, min_if]; first | (simp [hz]; done) | (simp; omega), hx⟩)

end Go.Proofs.YtgfknlkpdiejgaaDoor
