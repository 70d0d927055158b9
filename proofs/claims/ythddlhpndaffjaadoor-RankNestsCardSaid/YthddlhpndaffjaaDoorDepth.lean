/- tree.Depth as a contract. Condition: the tree lies in memory, it has few nodes. -/
import Derived.Test.YthddlhpndaffjaaDoorDepthP
import Derived.Test.YthddlhpndaffjaaDoorSize
namespace Go.Proofs.YthddlhpndaffjaaDoor
open Go.RowKit

theorem max_if (a b : Int) : Max.max a b = if a < b then b else a := by rw [Int.max_def]; split <;> split <;> omega

set_option maxRecDepth 100000 in
set_option maxHeartbeats 8000000 in
theorem depth_any : ∀ (n : Nd) (sv : Value) (w : World) (m : Int), NdOk w n sv → m ≤ 1000000 → 0 ≤ leftN n m →
    Calls Tryd.prog 34 #[nodeV n.h sv] w fun r w' => r = .returned (.int .i64 (depthN n)) ∧ Ext w w' := by
  refine Nd.ind fun hd subs ih sv w m hn hm1 hfew => ?_
  unfold NdOk at hn
  obtain ⟨A, c, rfl, hs⟩ := hn
  have hrange := depthN_few (.mk hd subs) m hfew
  have hlr : leftN (.mk hd subs) m = leftL subs (m - 1) := by rw [leftN]
  rw [hlr] at hfew hrange
  have hlen := leftL_len subs (m - 1) hfew
  have IH := Lib.hid ih
  have HS := Lib.hid hs
  have HFW := Lib.hid hfew
  clear ih hs hlr
  show Calls _ _ #[nodeV hd _] _ _
  have hdz : depthN (.mk hd subs) = depthA 0 subs + (if deepB hd subs.length = true then 1 else 0) + 1 := by rw [depthN]
  have HZ := Lib.hid hdz
  generalize depthN (.mk hd subs) = ss at *
  clear hdz
  obtain ⟨kind, set, num, mn, mx, bare⟩ := hd
  unfold nodeV at *
  simp only at *
  go_enter Tryd.func34, Tryd.ntmps34
  go_upto_region 2 with fail
  have nb := Blk.new w 27 #[.int .i64 kind, .int .u64 (wd set 0 : Int), .int .u64 (wd set 1 : Int), .int .u64 (wd set 2 : Int), .int .u64 (wd set 3 : Int), .slice A subs.length c, .int .i64 num, .int .i64 mn, .int .i64 mx, .bool bare]
  have hx1 := (Ext.refl w).alloc (.cells #[.int .i64 kind, .int .u64 (wd set 0 : Int), .int .u64 (wd set 1 : Int), .int .u64 (wd set 2 : Int), .int .u64 (wd set 3 : Int), .slice A subs.length c, .int .i64 num, .int .i64 mn, .int .i64 mx, .bool bare] 27)
  generalize w.alloc (.cells #[.int .i64 kind, .int .u64 (wd set 0 : Int), .int .u64 (wd set 1 : Int), .int .u64 (wd set 2 : Int), .int .u64 (wd set 3 : Int), .slice A subs.length c, .int .i64 num, .int .i64 mn, .int .i64 mx, .bool bare] 27) = w1 at *
  generalize w.heap.size = b at *
  have c0 := nb.cell 0
  have c5 := nb.cell 5
  have c7 := nb.cell 7
  have c8 := nb.cell 8
  simp only [List.getElem?_toArray, List.getElem?_cons_succ, List.getElem?_cons_zero] at c0 c5 c7 c8
  clear nb
  have hx11 : Ext w1 w1 := Ext.refl w1
  go_wp2
  go_loopw [3, 9] (fun a i wr => ∃ k : Nat, k ≤ subs.length ∧ i = .int .i64 k ∧ a = .int .i64 (depthA 0 (subs.take k)) ∧ Ext w wr ∧ Ext w1 wr) (fun _ i _ => subs.length - (intOf i).toNat)
  case atStart => exact ⟨0, Nat.zero_le _, rfl, by rw [List.take_zero, depthA], hx1, hx11⟩
  case round =>
    obtain ⟨k, hk', rfl, rfl, hx, hx2⟩ := hrel
    have c5' := hx2.cell c5
    by_cases hlt : k < subs.length
    · obtain ⟨g, o, sv, rfl, hcell, hok⟩ := HS.out.get k hlt
      obtain ⟨A2, c2, rfl⟩ := hok.shape
      have hpre : 0 ≤ leftL (subs.take k) (m - 1) := by
        have h1 := HFW.out
        rw [← List.take_append_drop k subs, leftL_app] at h1
        rcases Int.lt_or_le (leftL (subs.take k) (m - 1)) 0 with h | h
        · rw [leftL_neg _ _ h] at h1; omega
        · exact h
      have hpre1 : 0 ≤ leftL (subs.take (k + 1)) (m - 1) := by
        have h1 := HFW.out
        rw [← List.take_append_drop (k + 1) subs, leftL_app] at h1
        rcases Int.lt_or_le (leftL (subs.take (k + 1)) (m - 1)) 0 with h | h
        · rw [leftL_neg _ _ h] at h1; omega
        · exact h
      rw [take_snoc subs k hlt, leftL_app, leftL_one _ _ hpre] at hpre1
      have hle := leftL_len (subs.take k) (m - 1) hpre
      have IHk := Lib.hid (fun w' (hw' : Ext w w') => IH.out subs[k] (List.getElem_mem hlt) _ w' _ (NdOk.ext hw' _ _ hok) (by omega) hpre1)
      have hstep : depthA 0 (subs.take (k + 1)) = Max.max (depthA 0 (subs.take k)) (depthN subs[k]) := by rw [take_snoc subs k hlt, depthA_app, depthA, depthA]
      obtain ⟨e0, e1, e2, e3, e4, e5, e6, e7, e8, e9⟩ := node_cells hx hcell
      have HST := Lib.hid hstep
      clear hstep hok hcell IH HS HZ HFW c5 hpre hpre1 hle c0 c7 c8
      generalize subs[k] = nk at *
      obtain ⟨⟨k2, t2, n2, mn2, mx2, b2⟩, sub2⟩ := nk
      simp only [Nd.h] at *
      generalize (Nd.mk ⟨k2, t2, n2, mn2, mx2, b2⟩ sub2).subs.length = len2 at *
      generalize depthN (.mk ⟨k2, t2, n2, mn2, mx2, b2⟩ sub2) = res at *
      generalize depthA 0 (subs.take k) = acc at *
      have d1 : (k : Int) < (subs.length : Int) := by omega
      go_upto_region 5 with fail
      have hx4 := hx.alloc (.cells #[.int .i64 k2, .int .u64 (wd t2 0 : Int), .int .u64 (wd t2 1 : Int), .int .u64 (wd t2 2 : Int), .int .u64 (wd t2 3 : Int), .slice A2 len2 c2, .int .i64 n2, .int .i64 mn2, .int .i64 mx2, .bool b2] 27)
      have hx5 := hx2.alloc (.cells #[.int .i64 k2, .int .u64 (wd t2 0 : Int), .int .u64 (wd t2 1 : Int), .int .u64 (wd t2 2 : Int), .int .u64 (wd t2 3 : Int), .slice A2 len2 c2, .int .i64 n2, .int .i64 mn2, .int .i64 mx2, .bool b2] 27)
      go_wp2_with (go_at_call 34; refine (IHk.out _ hx4).mono ?_; rintro e w' ⟨rfl, hx'⟩)
      go_roundw
      case rel => exact ⟨k + 1, by omega, by go_num, by rw [HST.out, max_if], hx4.trans hx', hx5.trans hx'⟩
      case measure => simp [intOf]; omega
    · have hkl : subs.take k = subs := List.take_of_length_le (by omega)
      rw [hkl]
      have ht := depthA_few subs (m - 1) 0 HFW.out (by omega)
      have hl0 := HFW.out
      generalize depthA 0 subs = tot at *
      have t0 : 0 ≤ tot := by omega
      have t1 : tot ≤ 2000000 := by omega
      have q1 : IntKind.i64.wrap (tot + 1) = tot + 1 := by rw [IntKind.wrap_i64]; omega
      have q2 : IntKind.i64.wrap (tot + 1 + 1) = tot + 1 + 1 := by rw [IntKind.wrap_i64]; omega
      have c0' := hx2.cell c0
      have c7' := hx2.cell c7
      have c8' := hx2.cell c8
      have d1 : ¬ (k : Int) < (subs.length : Int) := by omega
      have hdb : (deepB ⟨kind, set, num, mn, mx, bare⟩ subs.length = true ∧ kind = 8 ∧ (0 : Int) < (subs.length : Int) ∧ (mn ≠ 0 ∨ (mn = 0 ∧ mx ≠ 1 ∧ mx ≠ -1))) ∨ (deepB ⟨kind, set, num, mn, mx, bare⟩ subs.length = false ∧ (kind ≠ 8 ∨ ¬ (0 : Int) < (subs.length : Int) ∨ (mn = 0 ∧ (mx = 1 ∨ mx = -1)))) := by
        cases hd : deepB ⟨kind, set, num, mn, mx, bare⟩ subs.length
        · refine .inr ⟨rfl, ?_⟩
          simp only [deepB, Bool.and_eq_false_iff, Bool.or_eq_false_iff, decide_eq_false_iff_not] at hd
          omega
        · refine .inl ⟨rfl, ?_⟩
          simp only [deepB, Bool.and_eq_true, Bool.or_eq_true, decide_eq_true_eq] at hd
          omega
      clear IH HS ht hl0 hrange HFW
      rcases hdb with ⟨hd, rfl, hl, h | ⟨rfl, h, h'⟩⟩ | ⟨hd, h | h | ⟨rfl, rfl | rfl⟩⟩
      case' inl.inr =>
        have n1 : (mx == 1) = false := by simpa using h
        have n2 : (mx == -1) = false := by simpa using h'
        have n3 : (mx != 1) = true := by simpa using h
        have n4 : (mx != -1) = true := by simpa using h'
      all_goals
        have hss := Lib.hid HZ.out
        rw [hd] at hss
        clear HZ hd
        go_wp2
        all_goals
          go_ret
          exact ⟨by rw [hss.out]; first | rfl | (simp; done) | (simp; omega), hx⟩

end Go.Proofs.YthddlhpndaffjaaDoor
