/- tree.Depth as a contract. Condition: the tree lies in memory, it has few nodes. How many nodes are left behind a tree. No program. The three error values of tree.Check as a walk meets them. No condition but that the row's listed variables hold what the row lists. tree.Check, expand.Expand, expand.Plain as contracts. Condition: the tree lies in memory, it has few nodes; the error values lie where they lie. -/
import Derived.Test.YtgfknlkpdiejgaaGreatDoorZRankedSpansAE
import Derived.Test.YtgfknlkpdiejgaaGreatDoorZRankedSpansAD
import Derived.Test.YtgfknlkpdiejgaaGreatDoorErrB
import Derived.Test.YtgfknlkpdiejgaaGreatDoorZRankedSpansAC
namespace Go.Proofs.YtgfknlkpdiejgaaGreatDoor
open Go.RowKit

theorem max_if (a b : Int) : Max.max a b = if a < b then b else a := by rw [Int.max_def]; split <;> split <;> omega

set_option maxRecDepth 100000 in
set_option maxHeartbeats 8000000 in
theorem depth_any : ∀ (n : Nd) (sv : Value) (w : World) (m : Int), NdOk w n sv → m ≤ 1000000 → 0 ≤ leftN n m →
    Calls Tryz.prog 69 #[nodeV n.h sv] w fun r w' => r = .returned (.int .i64 (depthN n)) ∧ Ext w w' := by
  refine Nd.ind fun hd subs ih sv w m hn hm1 hfew => ?_
  unfold NdOk at hn
  obtain ⟨A, c, rfl, hs⟩ := hn
  have hrange := depthN_few (.mk hd subs) m hfew
  have hlr : leftN (.mk hd subs) m = leftL subs (m - 1) := by rw [leftN]
  rw [hlr] at hfew hrange
  have hlen := leftL_len subs (m - 1) hfew
  have IH := Lib.hid ih
  have HS := Lib.hid hs
  have HFW := Lib.hid hfew
  clear ih hs hlr
  show Calls _ _ #[nodeV hd _] _ _
  have hdz : depthN (.mk hd subs) = depthA 0 subs + (if deepB hd subs.length = true then 1 else 0) + 1 := by rw [depthN]
  have HZ := Lib.hid hdz
  generalize depthN (.mk hd subs) = ss at *
  clear hdz
  obtain ⟨kind, set, num, mn, mx, bare⟩ := hd
  unfold nodeV at *
  simp only at *
  go_enter Tryz.func69, Tryz.ntmps69
  go_upto_region 2 with fail
  have nb := Blk.new w 27 #[.int .i64 kind, .int .u64 (wd set 0 : Int), .int .u64 (wd set 1 : Int), .int .u64 (wd set 2 : Int), .int .u64 (wd set 3 : Int), .slice A subs.length c, .int .i64 num, .int .i64 mn, .int .i64 mx, .bool bare]
  have hx1 := (Ext.refl w).alloc (.cells #[.int .i64 kind, .int .u64 (wd set 0 : Int), .int .u64 (wd set 1 : Int), .int .u64 (wd set 2 : Int), .int .u64 (wd set 3 : Int), .slice A subs.length c, .int .i64 num, .int .i64 mn, .int .i64 mx, .bool bare] 27)
  generalize w.alloc (.cells #[.int .i64 kind, .int .u64 (wd set 0 : Int), .int .u64 (wd set 1 : Int), .int .u64 (wd set 2 : Int), .int .u64 (wd set 3 : Int), .slice A subs.length c, .int .i64 num, .int .i64 mn, .int .i64 mx, .bool bare] 27) = w1 at *
  generalize w.heap.size = b at *
  have c0 := nb.cell 0
  have c5 := nb.cell 5
  have c7 := nb.cell 7
  have c8 := nb.cell 8
  simp only [List.getElem?_toArray, List.getElem?_cons_succ, List.getElem?_cons_zero] at c0 c5 c7 c8
  clear nb
  have hx11 : Ext w1 w1 := Ext.refl w1
  go_wp2
  go_loopw [3, 9] (fun a i wr => ∃ k : Nat, k ≤ subs.length ∧ i = .int .i64 k ∧ a = .int .i64 (depthA 0 (subs.take k)) ∧ Ext w wr ∧ Ext w1 wr) (fun _ i _ => subs.length - (intOf i).toNat)
  case atStart => exact ⟨0, Nat.zero_le _, rfl, by rw [List.take_zero, depthA], hx1, hx11⟩
  case round =>
    obtain ⟨k, hk', rfl, rfl, hx, hx2⟩ := hrel
    have c5' := hx2.cell c5
    by_cases hlt : k < subs.length
    · obtain ⟨g, o, sv, rfl, hcell, hok⟩ := HS.out.get k hlt
      obtain ⟨A2, c2, rfl⟩ := hok.shape
      have hpre : 0 ≤ leftL (subs.take k) (m - 1) := by
        have h1 := HFW.out
        rw [← List.take_append_drop k subs, leftL_app] at h1
        rcases Int.lt_or_le (leftL (subs.take k) (m - 1)) 0 with h | h
        · rw [leftL_neg _ _ h] at h1; omega
        · exact h
      have hpre1 : 0 ≤ leftL (subs.take (k + 1)) (m - 1) := by
        have h1 := HFW.out
        rw [← List.take_append_drop (k + 1) subs, leftL_app] at h1
        rcases Int.lt_or_le (leftL (subs.take (k + 1)) (m - 1)) 0 with h | h
        · rw [leftL_neg _ _ h] at h1; omega
        · exact h
      rw [take_snoc subs k hlt, leftL_app, leftL_one _ _ hpre] at hpre1
      have hle := leftL_len (subs.take k) (m - 1) hpre
      have IHk := Lib.hid (fun w' (hw' : Ext w w') => IH.out subs[k] (List.getElem_mem hlt) _ w' _ (NdOk.ext hw' _ _ hok) (by omega) hpre1)
      have hstep : depthA 0 (subs.take (k + 1)) = Max.max (depthA 0 (subs.take k)) (depthN subs[k]) := by rw [take_snoc subs k hlt, depthA_app, depthA, depthA]
      obtain ⟨e0, e1, e2, e3, e4, e5, e6, e7, e8, e9⟩ := node_cells hx hcell
      have HST := Lib.hid hstep
      clear hstep hok hcell IH HS HZ HFW c5 hpre hpre1 hle c0 c7 c8
      generalize subs[k] = nk at *
      obtain ⟨⟨k2, t2, n2, mn2, mx2, b2⟩, sub2⟩ := nk
      simp only [Nd.h] at *
      generalize (Nd.mk ⟨k2, t2, n2, mn2, mx2, b2⟩ sub2).subs.length = len2 at *
      generalize depthN (.mk ⟨k2, t2, n2, mn2, mx2, b2⟩ sub2) = res at *
      generalize depthA 0 (subs.take k) = acc at *
      have d1 : (k : Int) < (subs.length : Int) := by omega
      go_upto_region 5 with fail
      have hx4 := hx.alloc (.cells #[.int .i64 k2, .int .u64 (wd t2 0 : Int), .int .u64 (wd t2 1 : Int), .int .u64 (wd t2 2 : Int), .int .u64 (wd t2 3 : Int), .slice A2 len2 c2, .int .i64 n2, .int .i64 mn2, .int .i64 mx2, .bool b2] 27)
      have hx5 := hx2.alloc (.cells #[.int .i64 k2, .int .u64 (wd t2 0 : Int), .int .u64 (wd t2 1 : Int), .int .u64 (wd t2 2 : Int), .int .u64 (wd t2 3 : Int), .slice A2 len2 c2, .int .i64 n2, .int .i64 mn2, .int .i64 mx2, .bool b2] 27)
      go_wp2_with (go_at_call 69; refine (IHk.out _ hx4).mono ?_; rintro e w' ⟨rfl, hx'⟩)
      go_roundw
      case rel => exact ⟨k + 1, by omega, by go_num, by rw [HST.out, max_if], hx4.trans hx', hx5.trans hx'⟩
      case measure => simp [intOf]; omega
    · have hkl : subs.take k = subs := List.take_of_length_le (by omega)
      rw [hkl]
      have ht := depthA_few subs (m - 1) 0 HFW.out (by omega)
      have hl0 := HFW.out
      generalize depthA 0 subs = tot at *
      have t0 : 0 ≤ tot := by omega
      have t1 : tot ≤ 2000000 := by omega
      have q1 : IntKind.i64.wrap (tot + 1) = tot + 1 := by rw [IntKind.wrap_i64]; omega
      have q2 : IntKind.i64.wrap (tot + 1 + 1) = tot + 1 + 1 := by rw [IntKind.wrap_i64]; omega
      have c0' := hx2.cell c0
      have c7' := hx2.cell c7
      have c8' := hx2.cell c8
      have d1 : ¬ (k : Int) < (subs.length : Int) := by omega
      have hdb : (deepB ⟨kind, set, num, mn, mx, bare⟩ subs.length = true ∧ kind = 8 ∧ (0 : Int) < (subs.length : Int) ∧ (mn ≠ 0 ∨ (mn = 0 ∧ mx ≠ 1 ∧ mx ≠ -1))) ∨ (deepB ⟨kind, set, num, mn, mx, bare⟩ subs.length = false ∧ (kind ≠ 8 ∨ ¬ (0 : Int) < (subs.length : Int) ∨ (mn = 0 ∧ (mx = 1 ∨ mx = -1)))) := by
        cases hd : deepB ⟨kind, set, num, mn, mx, bare⟩ subs.length
        · refine .inr ⟨rfl, ?_⟩
          simp only [deepB, Bool.and_eq_false_iff, Bool.or_eq_false_iff, decide_eq_false_iff_not] at hd
          omega
        · refine .inl ⟨rfl, ?_⟩
          simp only [deepB, Bool.and_eq_true, Bool.or_eq_true, decide_eq_true_eq] at hd
          omega
      clear IH HS ht hl0 hrange HFW
      rcases hdb with ⟨hd, rfl, hl, h | ⟨rfl, h, h'⟩⟩ | ⟨hd, h | h | ⟨rfl, rfl | rfl⟩⟩
      case' inl.inr =>
        have n1 : (mx == 1) = false := by simpa using h
        have n2 : (mx == -1) = false := by simpa using h'
        have n3 : (mx != 1) = true := by simpa using h
        have n4 : (mx != -1) = true := by simpa using h'
      all_goals
        have hss := Lib.hid HZ.out
        rw [hd] at hss
        clear HZ hd
        go_wp2
        all_goals
          go_ret
          exact ⟨by rw [hss.out]; first | rfl | (simp; done) | (simp; omega), hx⟩

end Go.Proofs.YtgfknlkpdiejgaaGreatDoor

namespace Go.Proofs.YtgfknlkpdiejgaaGreatDoor

mutual
theorem left_nodes : ∀ (n : Nd) (m : Int), nodesN n ≤ m → leftN n m = m - nodesN n
  | .mk h subs, m, hm => by
    rw [nodesN] at hm ⊢
    rw [leftN, leftL_nodes subs (m - 1) (by omega)]
    omega
theorem leftL_nodes : ∀ (l : List Nd) (m : Int), nodesL l ≤ m → leftL l m = m - nodesL l
  | [], m, _ => by rw [leftL, nodesL]; omega
  | n :: r, m, hm => by
    have h1 := nodesN_pos n
    have h2 := nodesL_pos r
    rw [nodesL] at hm ⊢
    rw [leftL, if_pos (by omega), left_nodes n m (by omega), leftL_nodes r _ (by omega)]
    omega
end
theorem left_few {n : Nd} {m : Int} (h : nodesN n ≤ m) : 0 ≤ leftN n m := by rw [left_nodes n m h]; omega


end Go.Proofs.YtgfknlkpdiejgaaGreatDoor

namespace Go.Proofs.YtgfknlkpdiejgaaGreatDoor
open Go.RowKit Go.Extern.Stop Go.Stop Go.Extern

/-- Where ErrTooBig, ErrTree, ErrDeep lie. -/
structure Err3 (w : World) (A : Nat → Addr) : Prop where
  v9 : w.cell? ⟨9, 0, none⟩ = some (errV (A 9))
  v12 : w.cell? ⟨12, 0, none⟩ = some (errV (A 12))
  v13 : w.cell? ⟨13, 0, none⟩ = some (errV (A 13))
theorem Err3.ext {w w' : World} {A : Nat → Addr} (h : Err3 w A) (hx : Ext w w') : Err3 w' A := ⟨hx.cell h.v9, hx.cell h.v12, hx.cell h.v13⟩
def err3List : List (String × Nat × List UInt8) := [9, 12, 13].map fun i => (errNames.getD i "", if i = 9 then 9 else if i = 12 then 12 else 13, errTexts.getD i [])
def err3Laid : List (String × DataW Unit) := err3List.map fun x => (x.1, errD x.2.2)
theorem errs3_at {W : World} (h : laidMet Tryz.prog err3Laid W) : ∃ A, Err3 W A := by
  obtain ⟨ps, hv, hnd, hrows⟩ := h
  obtain ⟨al, hl, hi, _, hn⟩ := laid_many err3List ps (by
    have hall : err3List.all (fun x => decide (Tryz.prog.globalNamed x.1 = some x.2.1 ∧ (Tryz.prog.globals[x.2.1]?).map (·.type) = some 38)) = true := by kernel_rfl
    intro x hx
    exact of_decide_eq_true (List.all_eq_true.1 hall x hx)) hv hnd hrows
  have hl3 : al.length = 3 := by rw [hl]; rfl
  obtain ⟨a0, a1, a2, rfl⟩ : ∃ a0 a1 a2, al = [a0, a1, a2] := by
    match al, hl3 with
    | [a0, a1, a2], _ => exact ⟨a0, a1, a2, rfl⟩
  refine ⟨fun i => if i = 9 then a0 else if i = 12 then a1 else a2, (hi 0 _ _ rfl rfl).1, (hi 1 _ _ rfl rfl).1, (hi 2 _ _ rfl rfl).1⟩

end Go.Proofs.YtgfknlkpdiejgaaGreatDoor

namespace Go.Proofs.YtgfknlkpdiejgaaGreatDoor
open Go Go.RowKit

/-- The number of the error that Check answers; 0: none. -/
def chkN (n : Nd) : Nat := if formB n = false then 13 else if 200 < depthN n then 14 else if 2000 < sizeN n then 10 else 0
def errR (A : Nat → Addr) (k : Nat) : Value := if k = 0 then .nilIface else errV (A (k - 1))
theorem chk_ok {n : Nd} (h : chkN n = 0) : formB n = true ∧ depthN n ≤ 200 ∧ sizeN n ≤ 2000 := by
  unfold chkN at h
  cases hf : formB n
  · rw [if_pos hf] at h; cases h
  · rw [if_neg (by rw [hf]; decide)] at h
    split at h
    · cases h
    · split at h
      · cases h
      · exact ⟨rfl, by omega, by omega⟩

set_option maxRecDepth 100000 in
set_option maxHeartbeats 4000000 in
theorem check_any (n : Nd) (sv : Value) (w : World) (A : Nat → Addr) (m : Int) (hn : NdOk w n sv) (hE : Err3 w A) (hm : m ≤ 1000000) (hfew : 0 ≤ leftN n m) :
    Calls Tryz.prog 42 #[nodeV n.h sv] w fun r w' => r = .returned (errR A (chkN n)) ∧ Ext w w' := by
  have hsm := small_left n m hm hfew
  have H1 := Lib.hid (fun W (hW : Ext w W) => form_any n sv W (hn.ext hW) hsm)
  have H2 := Lib.hid (fun W (hW : Ext w W) => depth_any n sv W m (hn.ext hW) hm hfew)
  have H3 := Lib.hid (fun W (hW : Ext w W) (hf : formB n = true) => size_any n sv W (hn.ext hW) hsm hf)
  obtain ⟨v9, v12, v13⟩ := hE
  have HR := Lib.hid (show chkN n = if formB n = false then 13 else if 200 < depthN n then 14 else if 2000 < sizeN n then 10 else 0 from rfl)
  clear hn hm hfew hsm
  generalize chkN n = ck at *
  generalize depthN n = dn at *
  generalize sizeN n = sn at *
  generalize hf : formB n = fb at *
  clear hf
  generalize n.h = hd at *
  unfold errV at v9 v12 v13
  go_enter Tryz.func42, Tryz.ntmps42
  go_upto_region 1 with (refine wpl_boxNd rfl _ rfl hd _ rfl ?_; intro b w1 hb hx1 eb sb)
  cases fb
  · have HR2 := Lib.hid (HR.out.trans (if_pos rfl))
    clear HR H2 H3
    go_wp2_with (first
      | (refine wpl_loadNd rfl _ rfl b 0 hd _ rfl hb.nd ?_)
      | (go_at_call 68; refine (H1.out _ hx1).mono ?_; rintro e w2 ⟨rfl, hx2⟩; replace v12 := (hx1.trans hx2).cell v12))
    go_ret
    exact ⟨by rw [HR2.out]; rfl, hx1.trans hx2⟩
  have HR1 := Lib.hid (HR.out.trans (if_neg (by decide)))
  have H3' := Lib.hid (fun W hW => H3.out W hW rfl)
  clear HR H3
  by_cases hd1 : 200 < dn
  · have HR2 := Lib.hid (HR1.out.trans (if_pos hd1))
    clear HR1 H3'
    go_wp2_with (first
      | (refine wpl_loadNd rfl _ rfl b 0 hd _ rfl hb.nd ?_)
      | (go_at_call 68; refine (H1.out _ hx1).mono ?_; rintro e w2 ⟨rfl, hx2⟩)
      | (refine wpl_loadNd rfl _ rfl b 0 hd _ rfl (hb.ext hx2).nd ?_)
      | (go_at_call 69; refine (H2.out _ (hx1.trans hx2)).mono ?_; rintro e w3 ⟨rfl, hx3⟩; replace v13 := ((hx1.trans hx2).trans hx3).cell v13))
    go_ret
    exact ⟨by rw [HR2.out]; rfl, (hx1.trans hx2).trans hx3⟩
  have HR3 := Lib.hid (HR1.out.trans (if_neg hd1))
  clear HR1
  by_cases hd2 : 2000 < sn
  all_goals
    go_wp2_with (first
      | (refine wpl_loadNd rfl _ rfl b 0 hd _ rfl hb.nd ?_)
      | (go_at_call 68; refine (H1.out _ hx1).mono ?_; rintro e w2 ⟨rfl, hx2⟩)
      | (refine wpl_loadNd rfl _ rfl b 0 hd _ rfl (hb.ext hx2).nd ?_)
      | (go_at_call 69; refine (H2.out _ (hx1.trans hx2)).mono ?_; rintro e w3 ⟨rfl, hx3⟩)
      | (refine wpl_loadNd rfl _ rfl b 0 hd _ rfl (hb.ext (hx2.trans hx3)).nd ?_)
      | (go_at_call 70; refine (H3'.out _ ((hx1.trans hx2).trans hx3)).mono ?_; rintro e w4 ⟨rfl, hx4⟩; replace v9 := (((hx1.trans hx2).trans hx3).trans hx4).cell v9))
    go_ret
    exact ⟨by rw [HR3.out]; first | (rw [if_pos hd2]; rfl) | (rw [if_neg (by omega)]; rfl), ((hx1.trans hx2).trans hx3).trans hx4⟩

end Go.Proofs.YtgfknlkpdiejgaaGreatDoor
