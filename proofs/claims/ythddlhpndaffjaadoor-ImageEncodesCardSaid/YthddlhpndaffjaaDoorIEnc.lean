/- ImageEncodes as a walk. Condition: the tree lies in memory; the error values lie where they lie. -/
import Derived.Test.YthddlhpndaffjaaDoorILives
import Derived.Test.YthddlhpndaffjaaDoorCopyN
import Derived.Test.YthddlhpndaffjaaDoorSame
namespace Go.Proofs.YthddlhpndaffjaaDoor
open Go Go.RowKit

mutual
theorem few_nodes : ∀ (n : Nd) (m : Int), 0 ≤ leftN n m → nodesN n ≤ m
  | .mk h s, m, hm => by
    rw [leftN] at hm
    have := fewL_nodes s (m - 1) hm
    rw [nodesN]; omega
theorem fewL_nodes : ∀ (l : List Nd) (m : Int), 0 ≤ leftL l m → nodesL l ≤ m
  | [], m, hm => by rw [leftL] at hm; rw [nodesL]; exact hm
  | n :: r, m, hm => by
    have h0 : 0 ≤ m := Int.not_lt.1 fun h => by rw [leftL_neg _ _ h] at hm; omega
    rw [leftL, if_pos h0] at hm
    have h2 := fewL_nodes r _ hm
    have hp := nodesL_pos r
    have h3 := few_nodes n m (by omega)
    rw [left_nodes n m h3] at h2
    rw [nodesL]; omega
end
mutual
theorem short_nodes : ∀ (n : Nd), nodesN n < 16384 → shortN n
  | .mk h s, hn => by
    rw [nodesN] at hn
    have := nodesL_len s
    exact ⟨by omega, shortL_nodes s (by omega)⟩
theorem shortL_nodes : ∀ (l : List Nd), nodesL l < 16384 → shortL l
  | [], _ => trivial
  | n :: r, hn => by
    rw [nodesL] at hn
    have h1 := nodesN_pos n
    have h2 := nodesL_pos r
    exact ⟨short_nodes n (by omega), shortL_nodes r (by omega)⟩
end
theorem headB_len {h : Hd} {l : Nat} (hf : formedB h l = true) (hl : l < 16384) : (headB h l).length ≤ 39 := by
  by_cases h2 : h.kind = 2
  · rw [headB2 h2, setB_len]; omega
  by_cases h5 : h.kind = 5 ∨ h.kind = 6
  · rw [headB5 h5]; have := numB_len hl; omega
  by_cases h7 : h.kind = 7
  · rw [headB7 h7]
    have := formed_num hf h7
    have := numB_len (show h.num.toNat < 16384 by omega)
    omega
  by_cases h8 : h.kind = 8
  · rw [headB8 h8]
    have hr := formed_rep hf h8
    have h1 := numB_len (show h.min.toNat < 16384 by omega)
    have h2 := numB_len (show (h.max + 1).toNat < 16384 by omega)
    simp only [List.length_append, List.length_singleton]
    omega
  · rw [headB0 (by omega)]; simp
mutual
theorem img_len : ∀ (n : Nd), formB n = true → shortN n → ((imgN n).length : Int) ≤ 40 * nodesN n
  | .mk h s, hf, hs => by
    rw [formB, Bool.and_eq_true] at hf
    have h1 := headB_len hf.1 hs.1
    have h2 := imgL_len s hf.2 hs.2
    rw [imgN, nodesN]
    simp only [List.length_cons, List.length_append]
    omega
theorem imgL_len : ∀ (l : List Nd), formL l = true → shortL l → ((imgL l).length : Int) ≤ 40 * nodesL l
  | [], _, _ => by rw [imgL, nodesL]; simp
  | n :: r, hf, hs => by
    rw [formL, Bool.and_eq_true] at hf
    have h1 := img_len n hf.1 hs.1
    have h2 := imgL_len r hf.2 hs.2
    rw [imgL, nodesL, List.length_append]
    omega
end
theorem enc_len {n : Nd} (hs : shortN n) (hn : nodesN n ≤ 3000) : (encR n (chkN n)).length ≤ 200000 := by
  unfold encR
  split
  · rename_i hc
    have := img_len n (chk_ok hc).1 hs
    simp only [List.length_append, magic, List.length_cons, List.length_nil]
    omega
  · simp

/-- One byte written over. -/
theorem OwnB.set {w : World} {B g n cap : Nat} {l : List UInt8} (h : OwnB w B (.slice (some ⟨g, 0, none⟩) n cap) l) (k : Nat) (hk : k < l.length) (c : UInt8) :
    (∃ u, w.cell? ⟨g, k, none⟩ = some u) ∧ w.frozen? ⟨g, k, none⟩ = false ∧ OwnB (w.setCell ⟨g, k, none⟩ (bv c)) B (.slice (some ⟨g, 0, none⟩) n cap) (l.set k c) := by
  obtain ⟨hn, hc⟩ := Own1.cells h
  have hn' : n = l.length := by rw [hn, bvs_len]
  have hu : (bvs l)[k]? = some (bv l[k]) := by simp [bvs, hk]
  refine ⟨⟨_, hc k _ hu⟩, ?_, ?_⟩
  · rcases Own1.slice h with ⟨h0, _⟩ | ⟨g', cap', cur, hv, _, hb, _⟩
    · cases h0
    · simp only [Value.slice.injEq, Option.some.injEq, Addr.mk.injEq, and_true] at hv
      rw [hv.1]
      exact hb.frozen k
  · have h' : w.ownsRow B 5 1 (.slice (some ⟨g, 0, none⟩) n cap) n (bvs l) := by
      have h2 : w.ownsRow B 5 1 (.slice (some ⟨g, 0, none⟩) n cap) (bvs l).length (bvs l) := h
      rwa [← hn] at h2
    have h3 := (h'.stored k (bv c)).1
    unfold OwnB Own1
    have e : bvs (l.set k c) = (bvs l).set k (bv c) := by simp [bvs, List.map_set]
    rw [e, List.length_set, ← hn]
    exact h3

theorem OwnB.last {w : World} {B : Nat} {v : Value} {l : List UInt8} {c : Nat} (h : OwnB w B v (l ++ [b8 c])) : ∃ g cap, v = .slice (some ⟨g, 0, none⟩) (l.length + 1) cap ∧ w.cell? ⟨g, l.length, none⟩ = some (bv (b8 c)) := by
  obtain ⟨g, cap, hv, _, _, hc⟩ := Own1.form h (by rw [bvs_len]; simp)
  rw [bvs_len, List.length_append, List.length_singleton] at hv
  exact ⟨g, cap, hv, hc l.length _ (by simp [bvs])⟩

set_option maxRecDepth 100000 in
set_option maxHeartbeats 4000000 in
theorem imageEncodes_walk (n : Nd) (sv : Value) (w : World) (A : Nat → Addr) (hn : NdOk w n sv) (hE : ErrsAt w A) :
    Calls Tryd.prog 5 #[nodeV n.h sv] w fun r w' => r = .returned (.bool true) ∧ Ext w w' := by
  have HL := Lib.hid (fun W (hW : Ext w W) => ilives_any W A (hE.ext hW))
  have HF := Lib.hid (fun W (hW : Ext w W) => few_any n sv 3000 W (NdOk.ext hW _ _ hn) (by omega) (by omega))
  by_cases hf : 0 ≤ leftN n 3000
  · have hsm := small_left n 3000 (by omega) hf
    have hnn := few_nodes n 3000 hf
    have hsh := short_nodes n (by omega)
    have hel := enc_len hsh hnn
    have hil : chkN n = 0 → (imgN n).length ≤ 10000000 := fun hc => by have := img_len n (chk_ok hc).1 hsh; omega
    have HC := Lib.hid (fun W (hW : Ext w W) => (by exact copyNode_any n sv W (hn.ext hW) hsm : Calls Tryd.prog 18 #[nodeV n.h sv] W fun r w' => ∃ s, r = .returned (nodeV n.h s) ∧ NdNew W.heap.size w' n s ∧ Ext W w'))
    have HE := Lib.hid (fun W sv' (hW : Ext w W) (hn' : NdOk W n sv') => (by exact encode_any n sv' W A 3000 hn' (hE.three.ext hW) (by omega) hf hsh hil : Calls Tryd.prog 27 #[nodeV n.h sv'] W fun r w' => ∃ v, r = .returned (.tuple #[v, errR A (chkN n)]) ∧ OwnB w' W.heap.size v (encR n (chkN n)) ∧ Ext W w'))
    have HX := Lib.hid (fun W (hW : Ext w W) => (by exact encode09_any n sv W 3000 (hn.ext hW) (by omega) hf hsh hil : Calls Tryd.prog 28 #[nodeV n.h sv] W fun r w' => ∃ v, r = .returned (.tuple #[v, .int .i64 (chkN n)]) ∧ OwnB w' W.heap.size v (encR n (chkN n)) ∧ Ext W w'))
    have HNum := Lib.hid (fun W (hW : Ext w W) => num_errR A (chkN n) W (chk_le n) (hE.ext hW))
    have HS2 := Lib.hid (fun W a b (ha : NdOk W n a) (hb : NdOk W n b) => (by
      have := sameNodes_any _ a _ b W ha hb hsm
      rwa [sameN_refl] at this : Calls Tryd.prog 21 #[nodeV n.h a, nodeV n.h b] W fun r w' => r = .returned (.bool true) ∧ Ext W w'))
    have hfd : decide (0 ≤ leftN n 3000) = true := by simpa using hf
    rw [hfd] at HF
    have HNO := Lib.hid hn
    clear hE hn hsm hf hnn hsh hil hfd
    generalize leftN n 3000 = lf at *
    generalize encR n (chkN n) = er at *
    generalize errR A (chkN n) = ev at *
    generalize chkN n = ck at *
    generalize n.h = hd at *
    go_enter Tryd.func5, Tryd.ntmps5
    go_upto_region 9 with (first
      | (refine wpl_boxNd rfl _ rfl hd _ rfl ?_; intro b w1 hb hx1 eb sb)
      | (go_at_call 26; refine (HL.out _ hx1).mono ?_; rintro e w2 ⟨rfl, hx2⟩)
      | (refine wpl_loadNd rfl _ rfl b 0 hd _ rfl (hb.ext hx2).nd ?_)
      | (go_at_call 15; refine (HF.out _ (hx1.trans hx2)).mono ?_; rintro e w3 ⟨rfl, hx3⟩)
      | (refine wpl_loadNd rfl _ rfl b 0 hd _ rfl (hb.ext (hx2.trans hx3)).nd ?_)
      | (go_at_call 18; refine (HC.out _ ((hx1.trans hx2).trans hx3)).mono ?_; rintro e w4 ⟨svm, rfl, hm4, hx4⟩)
      | (refine wpl_allocNd rfl rfl ?_; intro mm w5 hz hx5 ez sz)
      | (refine wpl_storeNd rfl _ _ rfl rfl mm hd _ svm _ rfl rfl hm4.ok.sl hz ?_; intro w6 hmb hk6; have hx6 := hx5.keep1 hk6 ez)
      | (refine wpl_loadNd rfl _ rfl mm 0 hd _ rfl hmb.nd ?_)
      | (go_at_call 27; refine (HE.out _ svm ((((hx1.trans hx2).trans hx3).trans hx4).trans hx6) (hm4.ok.ext hx6)).mono ?_; rintro e w7 ⟨va, rfl, ha7, hx7⟩)
      | (refine wpl_loadNd rfl _ rfl mm 0 hd _ rfl (hmb.ext hx7).nd ?_)
      | (go_at_call 27; refine (HE.out _ svm (((((hx1.trans hx2).trans hx3).trans hx4).trans hx6).trans hx7) (hm4.ok.ext (hx6.trans hx7))).mono ?_; rintro e w8 ⟨vb, rfl, hb8, hx8⟩)
      | (refine wpl_loadNd rfl _ rfl b 0 hd _ rfl (hb.ext (((((hx2.trans hx3).trans hx4).trans hx6).trans hx7).trans hx8)).nd ?_)
      | (go_at_call 28; refine (HX.out _ ((((((hx1.trans hx2).trans hx3).trans hx4).trans hx6).trans hx7).trans hx8)).mono ?_; rintro e w9 ⟨vw, rfl, hw9, hx9⟩))
    have hxw6 : Ext w w6 := ((((hx1.trans hx2).trans hx3).trans hx4).trans hx6)
    have hx69 := (hx7.trans hx8).trans hx9
    have hb9 := hb.ext ((((hx2.trans hx3).trans hx4).trans hx6).trans hx69)
    have hm9 := hmb.ext hx69
    have hmo9 := hm4.ok.ext (hx6.trans hx69)
    have ha9 := ha7.ext (hx8.trans hx9)
    have hbb9 := hb8.ext hx9
    have hw9' : Ext w w9 := hxw6.trans hx69
    have s67 := hx7.size
    have HVA := Lib.hid (fun i (hi : va.ownBlock = some i) => (⟨(Own1.own ha7 i hi).1, Own1.own_lt ha7 i hi⟩ : w6.heap.size ≤ i ∧ i < w7.heap.size))
    have s78 := hx8.size
    have s89 := hx9.size
    have s6 := hxw6.size
    clear hb hx1 hx2 hx3 hx4 hx5 hx6 hx7 hx8 hx9 hk6 ez sz hz eb sb hm4 hmb ha7 hb8 HL HF HC HE HX hxw6 hx69
    obtain ⟨s0, hs0⟩ : ∃ s0, strV er = .string s0 := ⟨_, rfl⟩
    have HCV := Lib.hid (fun W B v (h : OwnB W B v er) => (hs0 ▸ h.conv : (convert 43 9 v).run Tryd.prog W = .ok (.string s0) W))
    clear hs0
    try simp only [Act.put, List.setIfInBounds_toArray, List.set_cons_succ, List.set_cons_zero]
    go_upto_region 11 with (first
      | (go_at_call 20; refine (HNum.out _ hw9').mono ?_; rintro e wa ⟨rfl, hxa⟩; have hca := HCV.out wa _ _ (ha9.ext hxa); have hcw := HCV.out wa _ _ (hw9.ext hxa))
      | (refine wpl_loadNdG _ rfl rfl mm 0 hd _ rfl (hm9.ext hxa).nd ?_)
      | (refine wpl_loadNdG _ rfl rfl b 0 hd _ rfl (hb9.ext hxa).nd ?_)
      | (go_at_call 21; refine (HS2.out _ _ _ (hmo9.ext hxa) (HNO.out.ext (hw9'.trans hxa))).mono ?_; rintro e wb ⟨rfl, hxb⟩))
    have hx9b := hxa.trans hxb
    have hab := ha9.ext hx9b
    have hbb := hbb9.ext hx9b
    have hwb := hw9.ext hx9b
    have hww := hw9'.trans hx9b
    have s9b := hx9b.size
    clear hca hcw hxa hxb hx9b ha9 hbb9 hw9 hb9 hm9 hmo9 HNum HS2 hw9'
    have hw6b : w.heap.size ≤ w6.heap.size := s6
    have HEND := Lib.hid (fun wr (hk : Keeps (fun i => va.ownBlock = some i) wb wr) => (⟨Own1.keeps hbb hk (fun i hi e => by have := (Own1.own hbb i hi).1; have := HVA.out i e; omega), Own1.keeps hwb hk (fun i hi e => by have := (Own1.own hwb i hi).1; have := HVA.out i e; omega), hww.keeps hk (fun i hi e => by have := HVA.out i e; omega)⟩ : OwnB wr w7.heap.size vb er ∧ OwnB wr w8.heap.size vw er ∧ Ext w wr))
    rcases Own1.slice hab with ⟨rfl, h0⟩ | ⟨g, cap, cur, rfl, hg, hbk, _⟩
    · have h00 : er = [] := List.eq_nil_of_map_eq_nil h0
      subst h00
      have hBb : w6.heap.size ≤ wb.heap.size := by omega
      clear hbb hwb hww hel
      try simp only [List.length_nil] at *
      go_wp2
      go_loop [52] (fun i => i = .int .i64 0) (fun _ => 0)
      case atStart => rfl
      case round =>
        subst hrel
        go_upto_region 17 with (first
          | (refine wpl_oneB rfl _ rfl 8 rfl ?_; intro g6 wd hg6 hx6 e6)
          | (refine wpl_appB1 rfl _ _ rfl w6.heap.size _ [] 8 g6 1 (by decide) rfl rfl (hab.ext hx6) (Nat.le_trans hBb hx6.size) hg6 (by simp) ?_; intro v7 we hL7 g7))
        obtain ⟨hb2, hw2, hx2⟩ := HEND.out we ((Keeps.of_ext hx6).trans g7.keeps (fun _ _ h => h))
        have hcb := HCV.out we _ _ hb2
        have hcw := HCV.out we _ _ hw2
        obtain ⟨g9, cap9, hv9, hc9⟩ := OwnB.last hL7
        simp only [List.length_nil] at hv9 hc9
        subst hv9
        have hc8 : we.cell? ⟨g9, 0, none⟩ = some (.int .u8 8) := hc9
        clear hc9
        clear hab hx6 hg6 e6 hL7 g7 hb2 hw2
        go_wp2
        go_ret
        exact ⟨rfl, hx2⟩
    · rw [bvs_len] at *
      have hBb : w6.heap.size ≤ wb.heap.size := by omega
      go_wp2
      go_loopw [52] (fun t wr => ∃ (k : Nat) (l' : List UInt8), k ≤ er.length ∧ t = .int .i64 k ∧ l'.length = er.length ∧ OwnB wr w6.heap.size (.slice (some ⟨g, 0, none⟩) er.length cap) l' ∧ Keeps (fun i => (Value.slice (some ⟨g, 0, none⟩) er.length cap).ownBlock = some i) wb wr) (fun t _ => er.length - (intOf t).toNat)
      case atStart => exact ⟨0, er, Nat.zero_le _, rfl, rfl, hab, Keeps.refl _ _⟩
      case round =>
        clear hab hbk
        obtain ⟨k, l', hk, rfl, hl', hL, hkp⟩ := hrel
        have HL' := Lib.hid hl'
        clear hl'
        by_cases hlt : k < er.length
        · have d1 : (k : Int) < (er.length : Int) := by omega
          obtain ⟨⟨u, hu⟩, hfz, hst⟩ := OwnB.set hL k (by rw [HL'.out]; exact hlt) 7
          go_wp2
          go_roundw
          case rel => exact ⟨k + 1, l'.set k 7, by omega, by go_num, by rw [List.length_set, HL'.out], hst, hkp.setCell (p := ⟨g, k, none⟩) (.inr rfl) _⟩
          case measure => simp [intOf]; omega
        · have HKP := Lib.hid hkp
          have hBr := Nat.le_trans hBb hkp.size
          have hl2 : l'.length ≤ 1000000000000 := by rw [HL'.out]; omega
          have d1 : ¬ (k : Int) < (er.length : Int) := by omega
          clear hbb hwb hww hlt hkp hBb
          go_upto_region 17 with (first
            | (refine wpl_oneB rfl _ rfl 8 rfl ?_; intro g6 wd hg6 hx6 e6)
            | (refine wpl_appB1 rfl _ _ rfl w6.heap.size _ l' 8 g6 1 (by decide) rfl rfl (hL.ext hx6) (Nat.le_trans hBr hx6.size) hg6 hl2 ?_; intro v7 we hL7 g7))
          obtain ⟨hb2, hw2, hx2⟩ := HEND.out we ((HKP.out.ext' hx6).trans g7.keeps (fun _ _ h => h))
          have hcb := HCV.out we _ _ hb2
          have hcw := HCV.out we _ _ hw2
          obtain ⟨g9, cap9, hv9, hc9⟩ := OwnB.last hL7
          rw [HL'.out] at hv9 hc9
          subst hv9
          have hc8 : we.cell? ⟨g9, er.length, none⟩ = some (.int .u8 8) := hc9
          clear hc9
          clear hL hx6 hg6 e6 hL7 g7 hb2 hw2 hBr
          go_wp2
          go_ret
          exact ⟨rfl, hx2⟩
  · have hd0 : decide (0 ≤ leftN n 3000) = false := by simpa using hf
    rw [hd0] at HF
    clear hE hn hd0 hf
    generalize n.h = hd at *
    go_enter Tryd.func5, Tryd.ntmps5
    go_upto_region 1 with (refine wpl_boxNd rfl _ rfl hd _ rfl ?_; intro b w1 hb hx1 eb sb)
    go_wp2_with (first
      | (go_at_call 26; refine (HL.out _ hx1).mono ?_; rintro e w2 ⟨rfl, hx2⟩)
      | (refine wpl_loadNd rfl _ rfl b 0 hd _ rfl (hb.ext hx2).nd ?_)
      | (go_at_call 15; refine (HF.out _ (hx1.trans hx2)).mono ?_; rintro e w3 ⟨rfl, hx3⟩))
    go_ret
    exact ⟨rfl, (hx1.trans hx2).trans hx3⟩

end Go.Proofs.YthddlhpndaffjaaDoor
