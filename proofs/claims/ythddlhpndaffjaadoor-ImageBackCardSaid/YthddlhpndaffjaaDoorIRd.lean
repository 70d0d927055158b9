/- trawlnum.Num of what tree.Check answers; whole nodes loaded in a region whose calls make memory. No condition. The fixed facts of layer 9's statements as a contract. Condition: the error values lie where they lie. image.Decode as a contract. Condition: the bytes lie in memory, the error values lie where they lie, the tree that the bytes name has few nodes. A []byte that came in, opened as a list of bytes. No condition. What a taken image names: short lists, no more nodes than bytes. No program. The law ImageReads: what Decode takes is a right tree whose image it is. Condition: the bytes lie in memory, the error values lie where they lie. -/
import Derived.Test.YthddlhpndaffjaaDoorExpandC
import Derived.Test.YthddlhpndaffjaaDoorNumErr
import Derived.Test.YthddlhpndaffjaaDoorImgC
import Derived.Test.YthddlhpndaffjaaDoorSameP
import Derived.Test.YthddlhpndaffjaaDoorRdr
import Derived.Deep.Slices
import Derived.SizedLaws
import Derived.ChangeSlices
import Derived.Test.YthddlhpndaffjaaDoorImgP
namespace Go.Proofs.YthddlhpndaffjaaDoor
open Go Go.RowKit

theorem num_errR (A : Nat → Addr) (k : Nat) (w : World) (hk : k ≤ 21) (h : ErrsAt w A) :
    Calls Tryd.prog 20 #[errR A k] w fun r w' => r = .returned (.int .i64 k) ∧ Ext w w' := by
  unfold errR
  by_cases h0 : k = 0
  · subst h0
    rw [if_pos rfl]
    exact Calls.ext_of_same (num_nil w)
  · rw [if_neg h0]
    have := num_err A (k - 1) w (by omega) h
    rwa [show k - 1 + 1 = k by omega] at this
theorem chk_le (n : Nd) : chkN n ≤ 21 := by unfold chkN; split <;> (try split) <;> (try split) <;> omega
theorem small_res {n : Nd} {k : Nat} (h : k = 0 → smallN n) : smallN (resN n k) := by
  unfold resN
  split
  · rename_i h0; exact h h0
  · exact ⟨by simp, trivial⟩
theorem NdAt.plus {w : World} {g o : Nat} {h : Hd} {sv : Value} (hn : NdAt w g o h sv) (y : Ex w) : NdAt (plus w y) g o h sv := hn.ext (plus_ext w y)
/-- The load of a whole node in a region whose worlds extend w. -/
theorem wpQuiet_loadNd {ops : Array Oper} {rest : List Oper} {o : Oper} {a : Act} {w : World} {K : Act → Prop} (x : Operand) (ho : o.op = .load 27 x) (hw : Region.wanted o (yielded ops a.tmps) = true) (g k : Nat) (h : Hd) (sv : Value) (hx : a.eval x = .pointer (some ⟨g, k, none⟩)) (hN : NdAt w g k h sv)
    (hK : wpQuiet Tryd.prog ops (fun w' => ∃ y : Ex w, w' = plus w y) K rest (a.put o.dst (nodeV h sv))) : wpQuiet Tryd.prog ops (fun w' => ∃ y : Ex w, w' = plus w y) K (o :: rest) a := by
  unfold wpQuiet
  rw [if_pos hw]
  refine ⟨nodeV h sv, fun W ⟨y, hy⟩ => ?_, hK⟩
  subst hy
  have hr := run_loadAt_mid (P := Tryd.prog) (plus w y) g k 27 (nodeC h sv) _ (fun j v hv => by
    have hj : j < 10 := (List.getElem?_eq_some_iff.1 hv).1
    rw [hN.plus y j hj, hv]) Tryd.underlying27 rfl info_nd
  unfold Oper.quietAt execOp
  simp only [ho, hx, Sem.run_bind, Sem.run_pure, Result.andThen_ok, hr]
  exact ⟨rfl, rfl⟩

end Go.Proofs.YthddlhpndaffjaaDoor

namespace Go.Proofs.YthddlhpndaffjaaDoor
open Go Go.RowKit

def exI : Nd := .mk ⟨7, noS, 300, 0, 0, false⟩ [.mk (hdV 1) []]
theorem exI_img : imgN exI = [7, 172, 2, 1] := by
  rw [exI, imgN, headB7 rfl, imgL, imgL, imgN, headB0 (by simp [hdV]), imgL]
  rw [show ((300 : Int).toNat) = 300 from rfl, numB_big (by decide), numB_small (by decide)]
  rfl
theorem ErrsAt.image {w : World} {A : Nat → Addr} (h : ErrsAt w A) : w.cell? ⟨16, 0, none⟩ = some (errV (A 16)) := by
  have v := h.var 16 (by omega)
  simpa only [gb, gbs, List.getD_cons_zero, List.getD_cons_succ] using v
/-- What Decode answers where the bytes are no image. -/
def RetBad (w : World) (e : Value) (r : Ending) (w' : World) : Prop := ∃ sv, r = .returned (.tuple #[nodeV (hdV 0) sv, e]) ∧ NdNew w.heap.size w' (.mk (hdV 0) []) sv ∧ Ext w w'

theorem zero_cells {W : World} {b : Nat} {t : TypeId} (h : Blk W b t (nodeA ⟨0, fun _ => false, 0, 0, 0, false⟩ (.slice none 0 0))) :
    (W.cell? ⟨b, 0, none⟩ = some (.int .i64 0) ∧ W.cell? ⟨b, 1, none⟩ = some (.int .u64 0) ∧ W.cell? ⟨b, 2, none⟩ = some (.int .u64 0) ∧ W.cell? ⟨b, 3, none⟩ = some (.int .u64 0) ∧ W.cell? ⟨b, 4, none⟩ = some (.int .u64 0) ∧
      W.cell? ⟨b, 5, none⟩ = some (.slice none 0 0) ∧ W.cell? ⟨b, 6, none⟩ = some (.int .i64 0) ∧ W.cell? ⟨b, 7, none⟩ = some (.int .i64 0) ∧ W.cell? ⟨b, 8, none⟩ = some (.int .i64 0) ∧ W.cell? ⟨b, 9, none⟩ = some (.bool false)) ∧ ∀ i, W.frozen? ⟨b, i, none⟩ = false := by
  have e : nodeA ⟨0, fun _ => false, 0, 0, 0, false⟩ (.slice none 0 0) = #[.int .i64 0, .int .u64 0, .int .u64 0, .int .u64 0, .int .u64 0, .slice none 0 0, .int .i64 0, .int .i64 0, .int .i64 0, .bool false] := by
    simp only [nodeA, nodeC, wd_no]
    rfl
  rw [e] at h
  exact ⟨⟨h.cell 0, h.cell 1, h.cell 2, h.cell 3, h.cell 4, h.cell 5, h.cell 6, h.cell 7, h.cell 8, h.cell 9⟩, h.frozen⟩

def zeroW (w : World) (z : Nat) : World := (((((((((w.setCell ⟨z, 0, none⟩ (.int .i64 0)).setCell ⟨z, 1, none⟩ (.int .u64 0)).setCell ⟨z, 2, none⟩ (.int .u64 0)).setCell ⟨z, 3, none⟩ (.int .u64 0)).setCell ⟨z, 4, none⟩ (.int .u64 0)).setCell ⟨z, 5, none⟩ (.slice none 0 0)).setCell ⟨z, 6, none⟩ (.int .i64 0)).setCell ⟨z, 7, none⟩ (.int .i64 0)).setCell ⟨z, 8, none⟩ (.int .i64 0)).setCell ⟨z, 9, none⟩ (.bool false)
theorem Blk.same {w : World} {g : Nat} {t : TypeId} {cs : Array Value} (h : Blk w g t cs) (i : Nat) (v : Value) (hv : cs[i]? = some v) : Blk (w.setCell ⟨g, i, none⟩ v) g t cs := by
  have h1 := h.set i v
  have e : cs.setIfInBounds i v = cs := by
    apply Array.ext
    · simp
    · intro k h2 h3
      rw [Array.getElem_setIfInBounds]
      split
      · rename_i hik
        subst hik
        rw [Array.getElem?_eq_getElem h3, Option.some.injEq] at hv
        exact hv.symm
      · rfl
  rwa [e] at h1
theorem zero_set {w : World} {z : Nat} {t : TypeId} (h : Blk w z t (nodeA ⟨0, fun _ => false, 0, 0, 0, false⟩ (.slice none 0 0))) : Blk (zeroW w z) z t (nodeA (hdV 0) (.slice none 0 0)) ∧ Keeps (· = z) w (zeroW w z) := by
  have e : nodeA ⟨0, fun _ => false, 0, 0, 0, false⟩ (.slice none 0 0) = #[.int .i64 0, .int .u64 0, .int .u64 0, .int .u64 0, .int .u64 0, .slice none 0 0, .int .i64 0, .int .i64 0, .int .i64 0, .bool false] := by
    simp only [nodeA, nodeC, wd_no]
    rfl
  have e2 : nodeA (hdV 0) (.slice none 0 0) = nodeA ⟨0, fun _ => false, 0, 0, 0, false⟩ (.slice none 0 0) := rfl
  rw [e2, e]
  rw [e] at h
  unfold zeroW
  refine ⟨?_, ?_⟩
  · exact (((((((((h.same 0 (.int .i64 0) rfl).same 1 (.int .u64 0) rfl).same 2 (.int .u64 0) rfl).same 3 (.int .u64 0) rfl).same 4 (.int .u64 0) rfl).same 5 (.slice none 0 0) rfl).same 6 (.int .i64 0) rfl).same 7 (.int .i64 0) rfl).same 8 (.int .i64 0) rfl).same 9 (.bool false) rfl
  · exact ((((((((((Keeps.refl (· = z) w).setCell (.inr rfl) _).setCell (.inr rfl) _).setCell (.inr rfl) _).setCell (.inr rfl) _).setCell (.inr rfl) _).setCell (.inr rfl) _).setCell (.inr rfl) _).setCell (.inr rfl) _).setCell (.inr rfl) _).setCell (.inr rfl) _

set_option maxRecDepth 100000 in
set_option maxHeartbeats 4000000 in
theorem decode_nil (w : World) (A : Nat → Addr) (hE : ErrsAt w A) : Calls Tryd.prog 29 #[.slice none 0 0] w (RetBad w (errV (A 16))) := by
  have hE16 := Lib.hid (fun W (hW : Ext w W) => (hE.ext hW).image)
  clear hE
  unfold errV at *
  generalize A 16 = ad at *
  go_enter Tryd.func29, Tryd.ntmps29
  go_upto_region 2 with (refine wpl_allocNd rfl rfl ?_; intro z w2 hz hx2 ez sz)
  have ce := hE16.out w2 hx2
  have hlt := World.block_lt_of_cell? w _ (hE16.out w (Ext.refl w))
  simp only at hlt
  have hn1 : (16 : Nat) ≠ z := by omega
  have hn2 : z ≠ (16 : Nat) := by omega
  obtain ⟨⟨a0, a1, a2, a3, a4, a5, a6, a7, a8, a9⟩, hf⟩ := zero_cells hz
  have f0 := hf 0
  have f1 := hf 1
  have f2 := hf 2
  have f3 := hf 3
  have f4 := hf 4
  have f5 := hf 5
  have f6 := hf 6
  have f7 := hf 7
  have f8 := hf 8
  have f9 := hf 9
  clear hf
  go_region
  go_wp2
  obtain ⟨hz', hk⟩ := zero_set hz
  have hxz := (hx2.keep1 hk ez).drew
  have hzd := hz'.drew
  unfold zeroW at hzd hxz
  exact ret_nd2 rfl rfl rfl rfl hzd ⟨.slice none 0 0, rfl, NdNew.nil _ _ _ _ _, hxz⟩

theorem exI_form : formB exI = true := by
  have h : formB (.mk (hdV 1) []) = true := formB_empty
  rw [exI, formB, formL, formL, h]
  simp [formedB, zeroS_no]
theorem exI_plain : plainN exI = true := by simp [exI, plainN, plainL, onceB, hdV]
theorem exI_nodes : nodesN exI = 2 := by simp [exI, nodesN, nodesL]
theorem exI_depth : depthN exI = 2 := by simp [exI, hdV, depthN, depthA, deepB]; try decide
theorem exI_chk : chkN exI = 0 := by
  have h := size_nodes exI exI_form
  rw [exp_plain _ exI_form exI_plain, exI_nodes] at h
  unfold chkN
  rw [exI_form, exI_depth, h]
  decide
theorem exI_short : shortN exI := ⟨by simp, ⟨by simp, trivial⟩, trivial⟩

set_option maxRecDepth 100000 in
set_option maxHeartbeats 4000000 in
theorem ilives_any (w : World) (A : Nat → Addr) (hE : ErrsAt w A) :
    Calls Tryd.prog 26 #[] w fun r w' => r = .returned (.bool true) ∧ Ext w w' := by
  have HX := Lib.hid (fun W g (hx : Ext w W) (hg : Blk W g 27 (nodeA (hdV 1) (.slice none 0 0))) => (by
    have hn : NdOk W exI (.slice (some ⟨g, 0, none⟩) 1 1) := by
      refine ⟨_, 1, rfl, ⟨⟨g, 0, .slice none 0 0, rfl, fun i hi => ?_, ⟨none, 0, rfl, trivial⟩⟩, trivial⟩⟩
      have e : (0 + 0 * 10 + i) = i := by omega
      rw [e, hg.cell, nodeA_get]
      rfl
    have := encode_any exI _ W A 100 hn (hE.three.ext hx) (by decide) (left_few (by rw [exI_nodes]; decide)) exI_short (fun _ => by rw [exI_img]; decide)
    rw [exI_chk] at this
    unfold RetE encR at this
    rw [if_pos rfl, exI_img] at this
    rw [node_lit]
    exact this : Calls Tryd.prog 27 #[.agg #[.int .i64 7, .int .u64 0, .int .u64 0, .int .u64 0, .int .u64 0, .slice (some ⟨g, 0, none⟩) 1 1, .int .i64 300, .int .i64 0, .int .i64 0, .bool false]] W fun r w' => ∃ v, r = .returned (.tuple #[v, .nilIface]) ∧ OwnB w' W.heap.size v (magic ++ [7, 172, 2, 1]) ∧ Ext W w'))
  have HD := Lib.hid (fun W (hW : Ext w W) => (by exact decode_nil W A (hE.ext hW) : Calls Tryd.prog 29 #[.slice none 0 0] W fun r w' => ∃ sv, r = .returned (.tuple #[nodeV (hdV 0) sv, errV (A 16)]) ∧ NdNew W.heap.size w' (.mk (hdV 0) []) sv ∧ Ext W w'))
  have HN := Lib.hid (fun W (hW : Ext w W) => (num_err A 16 W (by omega) (hE.ext hW)))
  clear hE
  unfold errV at *
  generalize A 16 = ad at *
  go_enter Tryd.func26, Tryd.ntmps26
  go_upto_region 3 with (first
    | (refine wpl_oneNd rfl _ rfl (hdV 1) (.slice none 0 0) (node_lit _ _ _ _ _ _) ?_; intro g1 w1 hg1 hx1 e1 s1)
    | (go_at_call 27; refine (HX.out _ g1 hx1 hg1).mono ?_; rintro e w2 ⟨v2, rfl, hL2, hx2⟩)
    | (go_at_call 29; refine (HD.out _ (hx1.trans hx2)).mono ?_; rintro e w3 ⟨sv3, rfl, hn3, hx3⟩)
    | (refine wpl_allocNd rfl rfl ?_; intro z w4 hz hx4 ez sz)
    | (refine wpl_storeNd rfl _ _ rfl rfl z (hdV 0) _ sv3 _ rfl rfl hn3.ok.sl hz ?_; intro w5 hz5 hk5; have hx5 := hx4.keep1 hk5 ez))
  have hcv : (convert 43 9 v2).run Tryd.prog w5 = .ok (.string { data := #[84, 82, 87, 76, 1, 7, 172, 2, 1] }) w5 := (hL2.ext (hx3.trans hx5)).conv
  have hxw := ((hx1.trans hx2).trans hx3).trans hx5
  clear hL2 hn3 hz hx4 hk5 hg1 hx1 hx2 hx3 hx5 HX HD
  go_wp2_with (go_at_call 20; refine (HN.out _ hxw).mono ?_; rintro e w6 ⟨rfl, hx6⟩)
  go_ret
  exact ⟨rfl, hxw.trans hx6⟩

end Go.Proofs.YthddlhpndaffjaaDoor

namespace Go.Proofs.YthddlhpndaffjaaDoor
open Go Go.RowKit

/-- What Decode makes of the bytes. -/
def decR (b : List UInt8) : Option Nd :=
  if 5 ≤ b.length ∧ b.take 5 = magic then
    (if (nodeP 200 (b.drop 5, false)).2 = ([], false) ∧ chkN (nodeP 200 (b.drop 5, false)).1 = 0 then some (nodeP 200 (b.drop 5, false)).1 else none)
  else none
def RetD (w : World) (b : List UInt8) (e : Value) (r : Ending) (w' : World) : Prop :=
  match decR b with
  | some n => ∃ sv, r = .returned (.tuple #[nodeV n.h sv, .nilIface]) ∧ NdNew w.heap.size w' n sv ∧ Ext w w'
  | none => RetBad w e r w'
/-- The bytes in memory. -/
def BytV (W : World) (v : Value) (b : List UInt8) : Prop := (v = .slice none 0 0 ∧ b = []) ∨ ∃ a c, v = .slice (some a) b.length c ∧ b.length ≤ c ∧ RdA W a b
theorem BytV.ext {w w' : World} {pv : Value} {b : List UInt8} (h : BytV w pv b) (hx : Ext w w') : BytV w' pv b := by
  rcases h with h | ⟨a, c, h1, h2, h3⟩
  · exact .inl h
  · exact .inr ⟨a, c, h1, h2, h3.ext hx⟩
theorem BytV.shape {w : World} {pv : Value} {b : List UInt8} (h : BytV w pv b) : ∃ A c, pv = .slice A b.length c := by
  rcases h with ⟨rfl, rfl⟩ | ⟨a, c, rfl, _⟩
  · exact ⟨none, 0, rfl⟩
  · exact ⟨some a, c, rfl⟩
theorem RdA.lt {W : World} {a : Addr} {b : List UInt8} (h : RdA W a b) (hb : 0 < b.length) : a.block < W.heap.size := by
  have := World.block_lt_of_cell? W _ (h 0 hb)
  rwa [add_block] at this
theorem RdA.from' {w : World} {a : Addr} {b : List UInt8} {c : Nat} (h : RdA w a b) (i : Nat) (hi : i ≤ b.length) (hc : b.length ≤ c) : RdA w (tlA a c i) (b.drop i) := by
  unfold tlA
  by_cases h0 : c = i
  · intro j hj
    rw [List.length_drop] at hj
    omega
  · rw [if_neg h0]
    have := RdA.drop (p := b.take i) (r := b.drop i) (by rw [List.take_append_drop]; exact h)
    rwa [List.length_take, Nat.min_eq_left hi] at this
theorem strV_tl (l : List UInt8) : (⟨l.toArray⟩ : ByteArray).toList = l := by rw [ByteArray.toList_eq]

set_option maxRecDepth 100000 in
set_option maxHeartbeats 8000000 in
theorem decode_any (b : List UInt8) (v : Value) (w : World) (A : Nat → Addr) (m : Int) (hE : ErrsAt w A) (hB : BytV w v b) (hm : m ≤ 1000000) (hfew : ∀ n, nodeP 200 (b.drop 5, false) = (n, ([], false)) → 0 ≤ leftN n m) :
    Calls Tryd.prog 29 #[v] w (RetD w b (errV (A 16))) := by
  have hE16 := Lib.hid (fun W (hW : Ext w W) => (hE.ext hW).image)
  have HCK := Lib.hid (fun n sv W (hn : NdOk W n sv) (hW : Ext w W) (hf : 0 ≤ leftN n m) => check_any n sv W A m hn (hE.ext hW).three hm hf)
  unfold errV at *
  clear hE
  by_cases h5 : b.length < 5
  · have HD := Lib.hid (by exact (by unfold decR; rw [if_neg (by omega)] : decR b = none))
    obtain ⟨P, c, rfl⟩ := hB.shape
    have d1 : (b.length : Int) < 5 := by omega
    clear hB hfew HCK
    generalize A 16 = ad at *
    go_enter Tryd.func29, Tryd.ntmps29
    go_upto_region 2 with (refine wpl_allocNd rfl rfl ?_; intro z w2 hz hx2 ez sz)
    have hxz0 := hx2
    have hzz := hz
    have ce := hE16.out _ hxz0
    have hlt := World.block_lt_of_cell? w _ (hE16.out w (Ext.refl w))
    simp only at hlt
    have hn1 : (16 : Nat) ≠ z := by omega
    have hn2 : z ≠ (16 : Nat) := by omega
    obtain ⟨⟨a0, a1, a2, a3, a4, a5, a6, a7, a8, a9⟩, hf⟩ := zero_cells hzz
    have f0 := hf 0
    have f1 := hf 1
    have f2 := hf 2
    have f3 := hf 3
    have f4 := hf 4
    have f5 := hf 5
    have f6 := hf 6
    have f7 := hf 7
    have f8 := hf 8
    have f9 := hf 9
    clear hf
    go_region
    go_wp2
    obtain ⟨hz', hk⟩ := zero_set hzz
    have hxz := (hxz0.keep1 hk ez).drew
    have hzd := hz'.drew
    unfold zeroW at hzd hxz
    exact ret_nd2 rfl rfl rfl rfl hzd (by unfold RetD; rw [HD.out]; exact ⟨.slice none 0 0, rfl, NdNew.nil _ _ _ _ _, hxz⟩)
  rcases hB with ⟨_, rfl⟩ | ⟨a, c, rfl, hbc, hrd⟩
  · exact absurd (show ([] : List UInt8).length < 5 by decide) h5
  have d1 : ¬ (b.length : Int) < 5 := by omega
  have hsl : ∀ W, (Instr.slice 43 (.slice (some a) b.length c) none (some (.int .i64 5)) none).run Tryd.prog W = .ok (.slice (some a) 5 c) W := fun W => slice_to W a b.length c 5 (by omega) hbc
  have ht5 : (b.take 5).length = 5 := by simp; omega
  have hcv : ∀ W, Ext w W → (convert 43 9 (.slice (some a) 5 c)).run Tryd.prog W = .ok (.string ⟨(b.take 5).toArray⟩) W := fun W hW => by
    have := conv_at W a c (b.take 5) (RdA.take (r := b.drop 5) (by rw [List.take_append_drop]; exact hrd.ext hW))
    rwa [ht5] at this
  by_cases hmg : b.take 5 = magic
  · have heq : ((⟨(b.take 5).toArray⟩ : ByteArray).toList == magic) = true := by rw [strV_tl, hmg]; simp
    have HD0 := Lib.hid (by exact (by unfold decR; rw [if_pos ⟨by omega, hmg⟩] : decR b = if (nodeP 200 (b.drop 5, false)).2 = ([], false) ∧ chkN (nodeP 200 (b.drop 5, false)).1 = 0 then some (nodeP 200 (b.drop 5, false)).1 else none))
    have hsl2 : ∀ W, (Instr.slice 43 (.slice (some a) b.length c) (some (.int .i64 5)) none none).run Tryd.prog W = .ok (.slice (some (tlA a c 5)) (b.length - 5) (c - 5)) W := fun W => slice_from W a b.length c 5 (by omega)
    have hrd5 : RdA w (tlA a c 5) (b.drop 5) := hrd.from' 5 (by omega) hbc
    have hal := hrd.lt (by omega)
    have hl5 : (b.drop 5).length = b.length - 5 := by simp
    have HN := Lib.hid (fun W r D (h1 : D ≤ W.heap.size) (h2 : RdSt W r D (b.drop 5, false)) => rnode_any 200 1 W r D (b.drop 5, false) (Lib.hid (by exact (by decide : (1 : Int) = 201 - ((200 : Nat) : Int)))) (Nat.le_refl _) h1 h2)
    generalize hA16 : A 16 = ad at *
    generalize nodeP 200 (b.drop 5, false) = res at *
    obtain ⟨n, l, bad⟩ := res
    have hfew' : bad = false → l = [] → 0 ≤ leftN n m := fun h1 h2 => hfew n (by rw [h1, h2])
    dsimp only at *
    clear hfew
    go_enter Tryd.func29, Tryd.ntmps29
    go_upto_region 1 with (refine wpl_allocNd rfl rfl ?_; intro z w2 hz hx2 ez sz)
    have hcv2 := hcv w2 hx2
    generalize hsm : (⟨(b.take 5).toArray⟩ : ByteArray) = sm at *
    clear hcv hrd ht5 hmg
    unfold magic at heq
    go_upto_region 4 with fail
    have hb3 := Blk.new w2 97 #[.slice (some (tlA a c 5)) (b.length - 5) (c - 5), .bool false]
    have hx3 := (Ext.refl w2).alloc (.cells #[.slice (some (tlA a c 5)) (b.length - 5) (c - 5), .bool false] 97)
    have hD3 : w2.heap.size < (w2.alloc (.cells #[.slice (some (tlA a c 5)) (b.length - 5) (c - 5), .bool false] 97)).heap.size := by simp
    have s2 := hx2.size
    generalize w2.alloc (.cells #[.slice (some (tlA a c 5)) (b.length - 5) (c - 5), .bool false] 97) = w3 at *
    have hrw : w.heap.size ≤ w2.heap.size := s2
    have hz3 := hz.ext hx3
    have hx23 := hx2.trans hx3
    have hrd3 := hrd5.ext hx23
    have hal2 : a.block < w2.heap.size := by omega
    clear hz hx2 hx3 hrd5 hal s2
    generalize w2.heap.size = r at *
    have hRd : RdSt w3 r w3.heap.size (b.drop 5, false) := ⟨some (tlA a c 5), c - 5, hD3, by rw [hl5]; exact hb3, by rw [hl5]; omega, by
      by_cases hnil : b.drop 5 = []
      · exact .inl hnil
      · exact .inr ⟨_, rfl, by rw [tlA_block]; omega, by rw [tlA_block]; omega, hrd3⟩⟩
    clear hrd3 hb3 hl5 hsl hsl2 hcv2
    go_upto_region 5 with (first
      | (go_at_call 61; refine (HN.out w3 r _ (Nat.le_refl _) hRd).mono ?_; rintro e w4 ⟨sv, rfl, hn, hR4, hk4⟩)
      | (refine wpl_allocNd rfl rfl ?_; intro p w5 hp hx5 ep sp)
      | (refine wpl_storeNd rfl _ _ rfl rfl p n.h _ sv _ rfl rfl hn.ok.sl hp ?_; intro w6 hp6 hk6; have hx6 := hx5.keep1 hk6 ep))
    have s4 := hk4.size
    have hzz := (hz3.keeps hk4 (by omega)).ext hx6
    have hxz0 : Ext w w6 := (hx23.keeps hk4 (fun i hi e => by omega)).trans hx6
    have hR6 := hR4.ext hx6
    have hn6 := hn.ok.ext hx6
    have hnn := hn.ext hx6
    obtain ⟨A6, c6, _, hb6, _, _⟩ := hR6
    have cr0 : w6.cell? ⟨r, 0, none⟩ = some (.slice A6 l.length c6) := hb6.cell 0
    have cr1 : w6.cell? ⟨r, 1, none⟩ = some (.bool bad) := hb6.cell 1
    have hzp : z ≠ p := by omega
    clear hz3 hR4 hRd hk4 hp hx5 hk6 hn hx6 HN hb6 hx23
    cases bad
    · by_cases hl0 : l = []
      · subst hl0
        have hC := Lib.hid (HCK.out n sv w6 hn6 hxz0 (hfew' rfl rfl))
        by_cases hk : chkN n = 0
        · have HD := Lib.hid (by exact (by rw [HD0.out, if_pos ⟨rfl, hk⟩] : decR b = some n))
          have hC1 := Lib.hid (by exact (by have := hC.out; rw [hk, errR, if_pos rfl] at this; exact this : Calls Tryd.prog 31 #[nodeV n.h sv] w6 fun r w' => r = .returned .nilIface ∧ Ext w6 w'))
          clear hC HCK hfew' HD0 hn6 hk hE16
          generalize hnh : n.h = hh at *
          have hsl6 := hnn.ok.sl
          go_wp2_with (first
            | (refine wpl_loadNdG _ rfl rfl p 0 hh sv rfl hp6.nd ?_)
            | (go_at_call 31; refine hC1.out.mono ?_; rintro e w7 ⟨rfl, hx7⟩)
            | (refine wpl_loadNd rfl _ rfl p 0 hh sv rfl (hp6.ext hx7).nd ?_)
            | (refine wpl_storeNd rfl _ _ rfl rfl z hh _ sv _ rfl rfl hsl6 (hzz.ext hx7) ?_; intro w8 hz8 hk8))
          exact ret_nd2 rfl rfl rfl rfl hz8 (by unfold RetD; rw [HD.out]; exact ⟨sv, by rw [hnh]; rfl, ((hnn.ext hx7).keep1 hk8 (by omega)).mono (by omega), (hxz0.trans hx7).keep1 hk8 ez⟩)
        · have HD := Lib.hid (by exact (by rw [HD0.out, if_neg (fun h => hk h.2)] : decR b = none))
          have hC1 := Lib.hid (by exact (by have := hC.out; rw [errR, if_neg hk] at this; exact this : Calls Tryd.prog 31 #[nodeV n.h sv] w6 fun r w' => r = .returned (errV (A (chkN n - 1))) ∧ Ext w6 w'))
          unfold errV at hC1
          clear hC HCK hfew' HD0 hn6 hk hnn
          generalize n.h = hh at *
          generalize A (chkN n - 1) = ac at *
          go_upto_region 6 with (first
            | (refine wpl_loadNdG _ rfl rfl p 0 hh sv rfl hp6.nd ?_)
            | (go_at_call 31; refine hC1.out.mono ?_; rintro e w7 ⟨rfl, hx7⟩))
          replace hzz := hzz.ext hx7
          replace hxz0 := hxz0.trans hx7
          have ce := hE16.out _ hxz0
          have hlt := World.block_lt_of_cell? w _ (hE16.out w (Ext.refl w))
          simp only at hlt
          have hn1 : (16 : Nat) ≠ z := by omega
          have hn2 : z ≠ (16 : Nat) := by omega
          obtain ⟨⟨a0, a1, a2, a3, a4, a5, a6, a7, a8, a9⟩, hf⟩ := zero_cells hzz
          have f0 := hf 0
          have f1 := hf 1
          have f2 := hf 2
          have f3 := hf 3
          have f4 := hf 4
          have f5 := hf 5
          have f6 := hf 6
          have f7 := hf 7
          have f8 := hf 8
          have f9 := hf 9
          clear hf
          go_region
          go_wp2
          obtain ⟨hz', hk⟩ := zero_set hzz
          have hxz := (hxz0.keep1 hk ez).drew
          have hzd := hz'.drew
          unfold zeroW at hzd hxz
          exact ret_nd2 rfl rfl rfl rfl hzd (by unfold RetD; rw [HD.out]; exact ⟨.slice none 0 0, rfl, NdNew.nil _ _ _ _ _, hxz⟩)
      · have HD := Lib.hid (by exact (by rw [HD0.out, if_neg (fun h => hl0 (congrArg Prod.fst h.1))] : decR b = none))
        obtain ⟨k, hk1⟩ : ∃ k, l.length = k + 1 := ⟨l.length - 1, by have := List.length_pos_iff.2 hl0; omega⟩
        rw [hk1] at cr0
        have d0 : (0 : Int) < (k : Int) + 1 := by omega
        clear HCK hfew' HD0 hn6 hnn hl0 hk1
        go_upto_region 6 with fail
        have ce := hE16.out _ hxz0
        have hlt := World.block_lt_of_cell? w _ (hE16.out w (Ext.refl w))
        simp only at hlt
        have hn1 : (16 : Nat) ≠ z := by omega
        have hn2 : z ≠ (16 : Nat) := by omega
        obtain ⟨⟨a0, a1, a2, a3, a4, a5, a6, a7, a8, a9⟩, hf⟩ := zero_cells hzz
        have f0 := hf 0
        have f1 := hf 1
        have f2 := hf 2
        have f3 := hf 3
        have f4 := hf 4
        have f5 := hf 5
        have f6 := hf 6
        have f7 := hf 7
        have f8 := hf 8
        have f9 := hf 9
        clear hf
        go_region
        go_wp2
        obtain ⟨hz', hk⟩ := zero_set hzz
        have hxz := (hxz0.keep1 hk ez).drew
        have hzd := hz'.drew
        unfold zeroW at hzd hxz
        exact ret_nd2 rfl rfl rfl rfl hzd (by unfold RetD; rw [HD.out]; exact ⟨.slice none 0 0, rfl, NdNew.nil _ _ _ _ _, hxz⟩)
    · have HD := Lib.hid (by exact (by rw [HD0.out, if_neg (fun h => Bool.noConfusion (congrArg Prod.snd h.1))] : decR b = none))
      clear HCK hfew' HD0 hn6 hnn
      go_upto_region 6 with fail
      have ce := hE16.out _ hxz0
      have hlt := World.block_lt_of_cell? w _ (hE16.out w (Ext.refl w))
      simp only at hlt
      have hn1 : (16 : Nat) ≠ z := by omega
      have hn2 : z ≠ (16 : Nat) := by omega
      obtain ⟨⟨a0, a1, a2, a3, a4, a5, a6, a7, a8, a9⟩, hf⟩ := zero_cells hzz
      have f0 := hf 0
      have f1 := hf 1
      have f2 := hf 2
      have f3 := hf 3
      have f4 := hf 4
      have f5 := hf 5
      have f6 := hf 6
      have f7 := hf 7
      have f8 := hf 8
      have f9 := hf 9
      clear hf
      go_region
      go_wp2
      obtain ⟨hz', hk⟩ := zero_set hzz
      have hxz := (hxz0.keep1 hk ez).drew
      have hzd := hz'.drew
      unfold zeroW at hzd hxz
      exact ret_nd2 rfl rfl rfl rfl hzd (by unfold RetD; rw [HD.out]; exact ⟨.slice none 0 0, rfl, NdNew.nil _ _ _ _ _, hxz⟩)
  · have HD := Lib.hid (by exact (by unfold decR; rw [if_neg (fun h => hmg h.2)] : decR b = none))
    have hne : ((⟨(b.take 5).toArray⟩ : ByteArray).toList == magic) = false := by rw [strV_tl, beq_eq_false_iff_ne]; exact hmg
    clear hrd hfew HCK hmg ht5 hbc
    generalize A 16 = ad at *
    go_enter Tryd.func29, Tryd.ntmps29
    go_upto_region 1 with (refine wpl_allocNd rfl rfl ?_; intro z w2 hz hx2 ez sz)
    have hcv2 := hcv w2 hx2
    generalize hsm : (⟨(b.take 5).toArray⟩ : ByteArray) = sm at *
    clear hcv
    unfold magic at hne
    go_upto_region 2 with fail
    have hxz0 := hx2
    have hzz := hz
    have ce := hE16.out _ hxz0
    have hlt := World.block_lt_of_cell? w _ (hE16.out w (Ext.refl w))
    simp only at hlt
    have hn1 : (16 : Nat) ≠ z := by omega
    have hn2 : z ≠ (16 : Nat) := by omega
    obtain ⟨⟨a0, a1, a2, a3, a4, a5, a6, a7, a8, a9⟩, hf⟩ := zero_cells hzz
    have f0 := hf 0
    have f1 := hf 1
    have f2 := hf 2
    have f3 := hf 3
    have f4 := hf 4
    have f5 := hf 5
    have f6 := hf 6
    have f7 := hf 7
    have f8 := hf 8
    have f9 := hf 9
    clear hf
    go_region
    go_wp2
    obtain ⟨hz', hk⟩ := zero_set hzz
    have hxz := (hxz0.keep1 hk ez).drew
    have hzd := hz'.drew
    unfold zeroW at hzd hxz
    exact ret_nd2 rfl rfl rfl rfl hzd (by unfold RetD; rw [HD.out]; exact ⟨.slice none 0 0, rfl, NdNew.nil _ _ _ _ _, hxz⟩)

end Go.Proofs.YthddlhpndaffjaaDoor

namespace Go.Proofs.YthddlhpndaffjaaDoor
open Go.RowKit Go.ChangeShapes Go.WideShapes Go.Deep
set_option maxRecDepth 100000
section
variable {H : Type} {enc : TypeId × Value → H} {w : World} {base : Nat} {spare : Nat → Bool} {held : Bool}
theorem cell_u8 : Tryd.prog.cellsOf 5 = 1 := by kernel_rfl
theorem nat_u8 {n : Int} (h : (Lit.int .u8 n).wf = true) : ((UInt8.ofNat n.toNat).toNat : Int) = n := by
  obtain ⟨h0, h1⟩ : 0 ≤ n ∧ n ≤ 255 := by simpa [Lit.wf, IntKind.min, IntKind.max, IntKind.signed, IntKind.bits] using h
  obtain ⟨k, rfl⟩ := Int.eq_ofNat_of_zero_le h0
  simp
  omega
theorem open_byt {r : Reach} {b0 : Nat} {v : Value} {d : DataW H} {qs : List MemPlace} (hval : Value.okWide Tryd.prog w r b0 43 v) (h : DataW.Trod enc Tryd.prog w base spare held 43 v d qs) :
    ∃ b, BytV w v b ∧ (b = [] ∨ ∃ e' sp', d = .slice e' sp' ∧ e'.length = b.length) := by
  obtain ⟨a0, l0, c0, rfl⟩ := okWide_slice Tryd.underlying43 hval
  obtain ⟨fuel, hf⟩ := h
  rcases Go.ChangeShapes.open_ints Tryd.underlying43 Tryd.underlying5 cell_u8 hf with ⟨h0, _⟩ | ⟨a, len, cap, zs, h0, _, hl, _, hz, hx, hc, hw⟩
  · have h0 : Value.slice a0 l0 c0 = .slice none 0 0 := by injection h0
    rw [h0]
    exact ⟨[], .inl ⟨rfl, rfl⟩, .inl rfl⟩
  · have h0 : Value.slice a0 l0 c0 = .slice (some a) len cap := by injection h0
    rw [h0]
    have hlz : len ≤ zs.length := by rw [hz]; split <;> omega
    have hbl : ((zs.take len).map fun z => UInt8.ofNat z.toNat).length = len := by simp; omega
    refine ⟨(zs.take len).map fun z => UInt8.ofNat z.toNat, .inr ⟨a, cap, by rw [hbl], by rw [hbl]; exact hl, fun j hj => ?_⟩, .inr ⟨_, _, congrArg Prod.fst hx, by simp [lits]⟩⟩
    rw [hbl] at hj
    rw [hc j (by omega), List.getD_eq_getElem?_getD, List.getD_eq_getElem?_getD, List.getElem?_map, List.getElem?_take, if_pos hj, List.getElem?_eq_getElem (by omega)]
    simp only [Option.map_some, Option.getD_some]
    rw [nat_u8 (hw _ (List.getElem_mem _))]
end

end Go.Proofs.YthddlhpndaffjaaDoor

namespace Go.Proofs.YthddlhpndaffjaaDoor

theorem numP_short {s : St} (h : (numP s).2.2 = false) : (numP s).1 < 16384 := by
  unfold numP at h ⊢
  by_cases h1 : (tk s).1.toNat < 128
  · rw [if_pos h1]
    show (tk s).1.toNat < 16384
    omega
  · rw [if_neg h1] at h ⊢
    simp only [Bool.or_eq_false_iff, decide_eq_false_iff_not, not_or] at h
    have hc := (tk s).1.toNat_lt
    show (tk s).1.toNat % 128 + 128 * (tk (tk s).2).1.toNat < 16384
    omega
theorem headOf_short {s : St} (h : (headOf s).s.2 = false) : (headOf s).m < 16384 := by
  unfold headOf headP at h ⊢
  generalize (tk s).2 = s0 at *
  generalize (tk s).1.toNat = k at *
  by_cases h2 : k = 2
  · rw [if_pos h2]; show 0 < 16384; omega
  rw [if_neg h2] at h ⊢
  by_cases h5 : k = 5 ∨ k = 6
  · rw [if_pos h5] at h ⊢; exact numP_short h
  rw [if_neg h5] at h ⊢
  by_cases h7 : k = 7
  · rw [if_pos h7]; show 1 < 16384; omega
  rw [if_neg h7] at h ⊢
  by_cases h8 : k = 8
  · rw [if_pos h8]; show 1 < 16384; omega
  rw [if_neg h8]; show 0 < 16384; omega
theorem loopP_short {g : St → Nd × St} (hs : ∀ s, (g s).2.2 = false → s.2 = false ∧ s.1 = imgN (g s).1 ++ (g s).2.1) (hg : ∀ s, (g s).2.2 = false → shortN (g s).1) : ∀ (m : Nat) (s : St), (loopP g m s).2.2 = false → shortL (loopP g m s).1
  | 0, s, _ => trivial
  | m + 1, s, h => by
    unfold loopP at h ⊢
    by_cases hb : s.2 = true
    · rw [if_pos hb] at h
      rw [hb] at h
      cases h
    · rw [if_neg hb] at h ⊢
      exact ⟨hg _ (loopP_sound hs m _ h).1, loopP_short hs hg m _ h⟩
theorem nodeP_short : ∀ (f : Nat) (s : St), (nodeP f s).2.2 = false → shortN (nodeP f s).1
  | 0, s, h => by simp [nodeP] at h
  | f + 1, s, h => by
    unfold nodeP at h ⊢
    have h1 := loopP_sound (nodeP_sound f) _ _ h
    exact ⟨by rw [h1.2.2]; exact headOf_short h1.1, loopP_short (nodeP_sound f) (nodeP_short f) _ _ h⟩
theorem nodeP_len (f : Nat) (l : List UInt8) (h : (nodeP f (l, false)).2.2 = false) : nodesN (nodeP f (l, false)).1 ≤ (l.length : Int) := by
  have h1 := (nodeP_sound f _ h).2
  have h2 := nodes_img (nodeP f (l, false)).1
  have h3 := congrArg List.length h1
  rw [List.length_append] at h3
  dsimp only at h3
  omega

end Go.Proofs.YthddlhpndaffjaaDoor

namespace Go.Proofs.YthddlhpndaffjaaDoor
open Go Go.RowKit

theorem decR_some {b : List UInt8} {n : Nd} (h : decR b = some n) : b = magic ++ imgN n ∧ chkN n = 0 ∧ shortN n ∧ nodesN n ≤ (b.length : Int) := by
  unfold decR at h
  by_cases h1 : 5 ≤ b.length ∧ b.take 5 = magic
  · rw [if_pos h1] at h
    by_cases h2 : (nodeP 200 (b.drop 5, false)).2 = ([], false) ∧ chkN (nodeP 200 (b.drop 5, false)).1 = 0
    · rw [if_pos h2, Option.some.injEq] at h
      have h3 : (nodeP 200 (b.drop 5, false)).2.2 = false := by rw [h2.1]
      have h4 := (nodeP_sound 200 _ h3).2
      have h5 := nodeP_short 200 _ h3
      have h6 := nodeP_len 200 _ h3
      rw [h2.1, h] at h4
      rw [h] at h5 h6
      refine ⟨?_, by rw [← h]; exact h2.2, h5, ?_⟩
      · have : b.take 5 ++ b.drop 5 = b := List.take_append_drop 5 b
        rw [h1.2] at this
        rw [← this]
        congr 1
        simpa using h4
      · rw [List.length_drop] at h6
        omega
    · rw [if_neg h2] at h; cases h
  · rw [if_neg h1] at h; cases h
theorem dec_few {b : List UInt8} {k : Nat} {m : Int} (hb : b.length ≤ k) (hk : (k : Int) ≤ m) : ∀ n, nodeP 200 (b.drop 5, false) = (n, ([], false)) → 0 ≤ leftN n m := fun n hn => by
  have h1 := nodeP_len 200 (b.drop 5) (by rw [hn])
  rw [hn, List.length_drop] at h1
  exact left_few (by dsimp only at h1; omega)
theorem BytV.conv {w : World} {pv : Value} {b : List UInt8} (h : BytV w pv b) : (convert 43 9 pv).run Tryd.prog w = .ok (strV b) w := by
  rcases h with ⟨rfl, rfl⟩ | ⟨a, c, rfl, _, h3⟩
  · exact Lib.run_convert_nil_bytes w 43 9 5 0 Tryd.underlying43 Tryd.underlying5 Tryd.underlying9
  · exact conv_at w a c b h3
theorem nd_none {w : World} {B : Nat} {h : Hd} {sv : Value} (hn : NdNew B w (.mk h []) sv) : ∃ P c, sv = .slice P 0 c := by
  have := hn.ok
  unfold NdOk at this
  obtain ⟨P, c, h1, _⟩ := this
  exact ⟨P, c, h1⟩

set_option maxRecDepth 100000 in
set_option maxHeartbeats 8000000 in
theorem imageReads_walk (b : List UInt8) (v : Value) (W : World) (A : Nat → Addr) (hB : BytV W v b) (hE : ErrsAt W A) :
    Calls Tryd.prog 7 #[v] W fun r w' => r = .returned (.bool true) ∧ Ext W w' := by
  have HL := Lib.hid (ilives_any W A hE)
  have HNM := Lib.hid (fun w (hW : Ext W w) => num_err A 16 w (by omega) (hE.ext hW))
  by_cases hbig : 100000 < b.length
  · obtain ⟨P, c, rfl⟩ := hB.shape
    have d1 : (100000 : Int) < (b.length : Int) := by omega
    clear hB hE HNM
    go_enter Tryd.func7, Tryd.ntmps7
    go_wp2_with (go_at_call 26; refine HL.out.mono ?_; rintro e w1 ⟨rfl, hx1⟩)
    go_ret
    exact ⟨rfl, hx1⟩
  · have HD := Lib.hid (fun w (hW : Ext W w) => decode_any b v w A 1000000 (hE.ext hW) (hB.ext hW) (by decide) (dec_few (k := 100000) (by omega) (by decide)))
    have d1 : ¬ (100000 : Int) < (b.length : Int) := by omega
    have hBc := Lib.hid (fun w (hW : Ext W w) => (hB.ext hW).conv)
    obtain ⟨P, c, rfl⟩ := hB.shape
    cases hd : decR b with
    | none =>
      replace HD := Lib.hid (by exact (fun w hW => (HD.out w hW).mono (fun e w' h => by unfold RetD at h; rw [hd] at h; exact h) : ∀ w, Ext W w → Calls Tryd.prog 29 #[.slice P b.length c] w fun r w' => ∃ sv, r = .returned (.tuple #[nodeV (hdV 0) sv, errV (A 16)]) ∧ NdNew w.heap.size w' (.mk (hdV 0) []) sv ∧ Ext w w'))
      clear hBc hE hB hbig
      unfold errV at *
      generalize A 16 = ad at *
      go_enter Tryd.func7, Tryd.ntmps7
      go_upto_region 6 with (first
        | (go_at_call 26; refine HL.out.mono ?_; rintro e w1 ⟨rfl, hx1⟩)
        | (go_at_call 29; refine (HD.out _ hx1).mono ?_; rintro e w2 ⟨sv, rfl, hn, hx2⟩)
        | (refine wpl_allocNd rfl rfl ?_; intro z w3 hz hx3 ez sz)
        | (refine wpl_storeNd rfl _ _ rfl rfl z (hdV 0) _ sv _ rfl rfl hn.ok.sl hz ?_; intro w4 hz4 hk4; have hx4 := hx3.keep1 hk4 ez))
      have hxw := (hx1.trans hx2).trans hx4
      obtain ⟨P3, c3, rfl⟩ := nd_none hn
      have c0 : ∀ W', Ext w4 W' → W'.cell? ⟨z, 0, none⟩ = some (.int .i64 0) := fun W' hW => (hz4.ext hW).cell 0
      have c5 : ∀ W', Ext w4 W' → W'.cell? ⟨z, 5, none⟩ = some (.slice P3 0 c3) := fun W' hW => (hz4.ext hW).cell 5
      clear hn hz hx3 hk4 hz4 hx1 hx2 hx4 HD HL
      go_wp2_with (go_at_call 20; refine (HNM.out _ hxw).mono ?_; rintro e w5 ⟨rfl, hx5⟩; have k0 := c0 w5 hx5; have k5 := c5 w5 hx5)
      go_ret
      exact ⟨rfl, hxw.trans hx5⟩
    | some n =>
      replace HD := Lib.hid (by exact (fun w hW => (HD.out w hW).mono (fun e w' h => by unfold RetD at h; rw [hd] at h; exact h) : ∀ w, Ext W w → Calls Tryd.prog 29 #[.slice P b.length c] w fun r w' => ∃ sv, r = .returned (.tuple #[nodeV n.h sv, .nilIface]) ∧ NdNew w.heap.size w' n sv ∧ Ext w w'))
      obtain ⟨hbe, hc0, hsh, hno⟩ := decR_some hd
      have hil : (imgN n).length ≤ 100000 := by have := congrArg List.length hbe; rw [List.length_append] at this; omega
      have HEN := Lib.hid (fun w sv (hW : Ext W w) (hn : NdOk w n sv) => (by
        have := encode_any n sv w A 1000000 hn (hE.ext hW).three (by decide) (left_few (by omega)) hsh (fun _ => by omega)
        unfold RetE encR at this
        rw [hc0, if_pos rfl, ← hbe, errR, if_pos rfl] at this
        exact this : Calls Tryd.prog 27 #[nodeV n.h sv] w fun r w' => ∃ v, r = .returned (.tuple #[v, .nilIface]) ∧ OwnB w' w.heap.size v b ∧ Ext w w'))
      have HCK := Lib.hid (fun w sv (hW : Ext W w) (hn : NdOk w n sv) => (by
        have := check_any n sv w A 1000000 hn (hE.ext hW).three (by decide) (left_few (by omega))
        rw [hc0, errR, if_pos rfl] at this
        exact this : Calls Tryd.prog 31 #[nodeV n.h sv] w fun r w' => r = .returned .nilIface ∧ Ext w w'))
      clear hE hB hbig hbe hc0 hsh hno hil hd HNM
      generalize n.h = hh at *
      go_enter Tryd.func7, Tryd.ntmps7
      go_upto_region 8 with (first
        | (go_at_call 26; refine HL.out.mono ?_; rintro e w1 ⟨rfl, hx1⟩)
        | (go_at_call 29; refine (HD.out _ hx1).mono ?_; rintro e w2 ⟨sv, rfl, hn, hx2⟩)
        | (refine wpl_allocNd rfl rfl ?_; intro z w3 hz hx3 ez sz)
        | (refine wpl_storeNd rfl _ _ rfl rfl z hh _ sv _ rfl rfl hn.ok.sl hz ?_; intro w4 hz4 hk4; have hx4 := hx3.keep1 hk4 ez))
      have hxw := (hx1.trans hx2).trans hx4
      have hn4 := hn.ok.ext hx4
      clear hn hz hx3 hk4 hx1 hx2 hx4 HD HL
      go_upto_region 9 with (first
        | (refine wpl_loadNd rfl _ rfl z 0 hh sv rfl hz4.nd ?_)
        | (go_at_call 27; refine (HEN.out _ sv hxw hn4).mono ?_; rintro e w5 ⟨v5, rfl, hL5, hx5⟩))
      have hc1 : (convert 43 9 v5).run Tryd.prog w5 = .ok (strV b) w5 := hL5.conv
      have hc2 := hBc.out w5 (hxw.trans hx5)
      have hz5 := hz4.ext hx5
      have hn5 := hn4.ext hx5
      obtain ⟨P5, c5, rfl⟩ := hL5.shape
      clear hz4 hn4 hL5 hBc HEN
      unfold strV at *
      go_wp2_with (first
        | (refine wpl_loadNdG _ rfl rfl z 0 hh sv rfl hz5.nd ?_)
        | (go_at_call 31; refine (HCK.out _ sv (hxw.trans hx5) hn5).mono ?_; rintro e w6 ⟨rfl, hx6⟩))
      go_ret
      exact ⟨rfl, (hxw.trans hx5).trans hx6⟩

end Go.Proofs.YthddlhpndaffjaaDoor
