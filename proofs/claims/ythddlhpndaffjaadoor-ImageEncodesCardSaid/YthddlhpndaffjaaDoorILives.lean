/- The fixed facts of layer 9's statements as a contract. Condition: the error values lie where they lie. -/
import Derived.Test.YthddlhpndaffjaaDoorImgC
import Derived.Test.YthddlhpndaffjaaDoorEAid
import Derived.Test.YthddlhpndaffjaaDoorSameP
namespace Go.Proofs.YthddlhpndaffjaaDoor
open Go Go.RowKit

def exI : Nd := .mk ⟨7, noS, 300, 0, 0, false⟩ [.mk (hdV 1) []]
theorem exI_img : imgN exI = [7, 172, 2, 1] := by
  rw [exI, imgN, headB7 rfl, imgL, imgL, imgN, headB0 (by simp [hdV]), imgL]
  rw [show ((300 : Int).toNat) = 300 from rfl, numB_big (by decide), numB_small (by decide)]
  rfl
theorem ErrsAt.image {w : World} {A : Nat → Addr} (h : ErrsAt w A) : w.cell? ⟨16, 0, none⟩ = some (errV (A 16)) := by
  have v := h.var 16 (by omega)
  simpa only [gb, gbs, List.getD_cons_zero, List.getD_cons_succ] using v
/-- What Decode answers where the bytes are no image. -/
def RetBad (w : World) (e : Value) (r : Ending) (w' : World) : Prop := ∃ sv, r = .returned (.tuple #[nodeV (hdV 0) sv, e]) ∧ NdNew w.heap.size w' (.mk (hdV 0) []) sv ∧ Ext w w'

theorem zero_cells {W : World} {b : Nat} {t : TypeId} (h : Blk W b t (nodeA ⟨0, fun _ => false, 0, 0, 0, false⟩ (.slice none 0 0))) :
    (W.cell? ⟨b, 0, none⟩ = some (.int .i64 0) ∧ W.cell? ⟨b, 1, none⟩ = some (.int .u64 0) ∧ W.cell? ⟨b, 2, none⟩ = some (.int .u64 0) ∧ W.cell? ⟨b, 3, none⟩ = some (.int .u64 0) ∧ W.cell? ⟨b, 4, none⟩ = some (.int .u64 0) ∧
      W.cell? ⟨b, 5, none⟩ = some (.slice none 0 0) ∧ W.cell? ⟨b, 6, none⟩ = some (.int .i64 0) ∧ W.cell? ⟨b, 7, none⟩ = some (.int .i64 0) ∧ W.cell? ⟨b, 8, none⟩ = some (.int .i64 0) ∧ W.cell? ⟨b, 9, none⟩ = some (.bool false)) ∧ ∀ i, W.frozen? ⟨b, i, none⟩ = false := by
  have e : nodeA ⟨0, fun _ => false, 0, 0, 0, false⟩ (.slice none 0 0) = #[.int .i64 0, .int .u64 0, .int .u64 0, .int .u64 0, .int .u64 0, .slice none 0 0, .int .i64 0, .int .i64 0, .int .i64 0, .bool false] := by
    simp only [nodeA, nodeC, wd_no]
    rfl
  rw [e] at h
  exact ⟨⟨h.cell 0, h.cell 1, h.cell 2, h.cell 3, h.cell 4, h.cell 5, h.cell 6, h.cell 7, h.cell 8, h.cell 9⟩, h.frozen⟩

def zeroW (w : World) (z : Nat) : World := (((((((((w.setCell ⟨z, 0, none⟩ (.int .i64 0)).setCell ⟨z, 1, none⟩ (.int .u64 0)).setCell ⟨z, 2, none⟩ (.int .u64 0)).setCell ⟨z, 3, none⟩ (.int .u64 0)).setCell ⟨z, 4, none⟩ (.int .u64 0)).setCell ⟨z, 5, none⟩ (.slice none 0 0)).setCell ⟨z, 6, none⟩ (.int .i64 0)).setCell ⟨z, 7, none⟩ (.int .i64 0)).setCell ⟨z, 8, none⟩ (.int .i64 0)).setCell ⟨z, 9, none⟩ (.bool false)
theorem Blk.same {w : World} {g : Nat} {t : TypeId} {cs : Array Value} (h : Blk w g t cs) (i : Nat) (v : Value) (hv : cs[i]? = some v) : Blk (w.setCell ⟨g, i, none⟩ v) g t cs := by
  have h1 := h.set i v
  have e : cs.setIfInBounds i v = cs := by
    apply Array.ext
    · simp
    · intro k h2 h3
      rw [Array.getElem_setIfInBounds]
      split
      · rename_i hik
        subst hik
        rw [Array.getElem?_eq_getElem h3, Option.some.injEq] at hv
        exact hv.symm
      · rfl
  rwa [e] at h1
theorem zero_set {w : World} {z : Nat} {t : TypeId} (h : Blk w z t (nodeA ⟨0, fun _ => false, 0, 0, 0, false⟩ (.slice none 0 0))) : Blk (zeroW w z) z t (nodeA (hdV 0) (.slice none 0 0)) ∧ Keeps (· = z) w (zeroW w z) := by
  have e : nodeA ⟨0, fun _ => false, 0, 0, 0, false⟩ (.slice none 0 0) = #[.int .i64 0, .int .u64 0, .int .u64 0, .int .u64 0, .int .u64 0, .slice none 0 0, .int .i64 0, .int .i64 0, .int .i64 0, .bool false] := by
    simp only [nodeA, nodeC, wd_no]
    rfl
  have e2 : nodeA (hdV 0) (.slice none 0 0) = nodeA ⟨0, fun _ => false, 0, 0, 0, false⟩ (.slice none 0 0) := rfl
  rw [e2, e]
  rw [e] at h
  unfold zeroW
  refine ⟨?_, ?_⟩
  · exact (((((((((h.same 0 (.int .i64 0) rfl).same 1 (.int .u64 0) rfl).same 2 (.int .u64 0) rfl).same 3 (.int .u64 0) rfl).same 4 (.int .u64 0) rfl).same 5 (.slice none 0 0) rfl).same 6 (.int .i64 0) rfl).same 7 (.int .i64 0) rfl).same 8 (.int .i64 0) rfl).same 9 (.bool false) rfl
  · exact ((((((((((Keeps.refl (· = z) w).setCell (.inr rfl) _).setCell (.inr rfl) _).setCell (.inr rfl) _).setCell (.inr rfl) _).setCell (.inr rfl) _).setCell (.inr rfl) _).setCell (.inr rfl) _).setCell (.inr rfl) _).setCell (.inr rfl) _).setCell (.inr rfl) _

set_option maxRecDepth 100000 in
set_option maxHeartbeats 4000000 in
theorem decode_nil (w : World) (A : Nat → Addr) (hE : ErrsAt w A) : Calls Tryd.prog 29 #[.slice none 0 0] w (RetBad w (errV (A 16))) := by
  have hE16 := Lib.hid (fun W (hW : Ext w W) => (hE.ext hW).image)
  clear hE
  unfold errV at *
  generalize A 16 = ad at *
  go_enter Tryd.func29, Tryd.ntmps29
  go_upto_region 2 with (refine wpl_allocNd rfl rfl ?_; intro z w2 hz hx2 ez sz)
  have ce := hE16.out w2 hx2
  have hlt := World.block_lt_of_cell? w _ (hE16.out w (Ext.refl w))
  simp only at hlt
  have hn1 : (16 : Nat) ≠ z := by omega
  have hn2 : z ≠ (16 : Nat) := by omega
  obtain ⟨⟨a0, a1, a2, a3, a4, a5, a6, a7, a8, a9⟩, hf⟩ := zero_cells hz
  have f0 := hf 0
  have f1 := hf 1
  have f2 := hf 2
  have f3 := hf 3
  have f4 := hf 4
  have f5 := hf 5
  have f6 := hf 6
  have f7 := hf 7
  have f8 := hf 8
  have f9 := hf 9
  clear hf
  go_region
  go_wp2
  obtain ⟨hz', hk⟩ := zero_set hz
  have hxz := (hx2.keep1 hk ez).drew
  have hzd := hz'.drew
  unfold zeroW at hzd hxz
  exact ret_nd2 rfl rfl rfl rfl hzd ⟨.slice none 0 0, rfl, NdNew.nil _ _ _ _ _, hxz⟩

theorem exI_form : formB exI = true := by
  have h : formB (.mk (hdV 1) []) = true := formB_empty
  rw [exI, formB, formL, formL, h]
  simp [formedB, zeroS_no]
theorem exI_plain : plainN exI = true := by simp [exI, plainN, plainL, onceB, hdV]
theorem exI_nodes : nodesN exI = 2 := by simp [exI, nodesN, nodesL]
theorem exI_depth : depthN exI = 2 := by simp [exI, hdV, depthN, depthA, deepB]; try decide
theorem exI_chk : chkN exI = 0 := by
  have h := size_nodes exI exI_form
  rw [exp_plain _ exI_form exI_plain, exI_nodes] at h
  unfold chkN
  rw [exI_form, exI_depth, h]
  decide
theorem exI_short : shortN exI := ⟨by simp, ⟨by simp, trivial⟩, trivial⟩

set_option maxRecDepth 100000 in
set_option maxHeartbeats 4000000 in
theorem ilives_any (w : World) (A : Nat → Addr) (hE : ErrsAt w A) :
    Calls Tryd.prog 26 #[] w fun r w' => r = .returned (.bool true) ∧ Ext w w' := by
  have HX := Lib.hid (fun W g (hx : Ext w W) (hg : Blk W g 27 (nodeA (hdV 1) (.slice none 0 0))) => (by
    have hn : NdOk W exI (.slice (some ⟨g, 0, none⟩) 1 1) := by
      refine ⟨_, 1, rfl, ⟨⟨g, 0, .slice none 0 0, rfl, fun i hi => ?_, ⟨none, 0, rfl, trivial⟩⟩, trivial⟩⟩
      have e : (0 + 0 * 10 + i) = i := by omega
      rw [e, hg.cell, nodeA_get]
      rfl
    have := encode_any exI _ W A 100 hn (hE.three.ext hx) (by decide) (left_few (by rw [exI_nodes]; decide)) exI_short (fun _ => by rw [exI_img]; decide)
    rw [exI_chk] at this
    unfold RetE encR at this
    rw [if_pos rfl, exI_img] at this
    rw [node_lit]
    exact this : Calls Tryd.prog 27 #[.agg #[.int .i64 7, .int .u64 0, .int .u64 0, .int .u64 0, .int .u64 0, .slice (some ⟨g, 0, none⟩) 1 1, .int .i64 300, .int .i64 0, .int .i64 0, .bool false]] W fun r w' => ∃ v, r = .returned (.tuple #[v, .nilIface]) ∧ OwnB w' W.heap.size v (magic ++ [7, 172, 2, 1]) ∧ Ext W w'))
  have HD := Lib.hid (fun W (hW : Ext w W) => (by exact decode_nil W A (hE.ext hW) : Calls Tryd.prog 29 #[.slice none 0 0] W fun r w' => ∃ sv, r = .returned (.tuple #[nodeV (hdV 0) sv, errV (A 16)]) ∧ NdNew W.heap.size w' (.mk (hdV 0) []) sv ∧ Ext W w'))
  have HN := Lib.hid (fun W (hW : Ext w W) => (num_err A 16 W (by omega) (hE.ext hW)))
  clear hE
  unfold errV at *
  generalize A 16 = ad at *
  go_enter Tryd.func26, Tryd.ntmps26
  go_upto_region 3 with (first
    | (refine wpl_oneNd rfl _ rfl (hdV 1) (.slice none 0 0) (node_lit _ _ _ _ _ _) ?_; intro g1 w1 hg1 hx1 e1 s1)
    | (go_at_call 27; refine (HX.out _ g1 hx1 hg1).mono ?_; rintro e w2 ⟨v2, rfl, hL2, hx2⟩)
    | (go_at_call 29; refine (HD.out _ (hx1.trans hx2)).mono ?_; rintro e w3 ⟨sv3, rfl, hn3, hx3⟩)
    | (refine wpl_allocNd rfl rfl ?_; intro z w4 hz hx4 ez sz)
    | (refine wpl_storeNd rfl _ _ rfl rfl z (hdV 0) _ sv3 _ rfl rfl hn3.ok.sl hz ?_; intro w5 hz5 hk5; have hx5 := hx4.keep1 hk5 ez))
  have hcv : (convert 43 9 v2).run Tryd.prog w5 = .ok (.string { data := #[84, 82, 87, 76, 1, 7, 172, 2, 1] }) w5 := (hL2.ext (hx3.trans hx5)).conv
  have hxw := ((hx1.trans hx2).trans hx3).trans hx5
  clear hL2 hn3 hz hx4 hk5 hg1 hx1 hx2 hx3 hx5 HX HD
  go_wp2_with (go_at_call 20; refine (HN.out _ hxw).mono ?_; rintro e w6 ⟨rfl, hx6⟩)
  go_ret
  exact ⟨rfl, hxw.trans hx6⟩

end Go.Proofs.YthddlhpndaffjaaDoor
