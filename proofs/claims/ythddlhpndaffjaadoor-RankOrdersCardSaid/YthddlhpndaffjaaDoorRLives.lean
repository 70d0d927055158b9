/- The fixed facts of layer 12's statements as a contract. Condition: the error values lie where they lie. -/
import Derived.Test.YthddlhpndaffjaaDoorSpans
import Derived.Test.YthddlhpndaffjaaDoorSmSp
import Derived.Test.YthddlhpndaffjaaDoorCmp
import Derived.Test.YthddlhpndaffjaaDoorExpQ
import Derived.Test.YthddlhpndaffjaaDoorPsL
import Derived.Deep.RegionHeld3
namespace Go.Proofs.YthddlhpndaffjaaDoor
open Go Go.RowKit

def hdB (b : Nat) : Hd := ⟨2, fun x => x == b, 0, 0, 0, false⟩
def byN (b : Nat) : Nd := .mk (hdB b) []
def hdG (k : Int) : Hd := ⟨7, noS, k, 0, 0, false⟩
def hdR : Hd := ⟨8, noS, 0, 0, -1, false⟩
def exG2 : Nd := .mk (hdG 2) [byN 97]
def exAl : Nd := .mk (hdV 6) [exG2, byN 98]
def exG1 : Nd := .mk (hdG 1) [exAl]
def exT : Nd := .mk hdR [exG1]
def pa0 : Pd := ⟨0, 1, 0⟩
def ex1d : Ps := .mk pa0 []
def ex1c : Ps := .mk pa0 [ex1d]
def ex1b : Ps := .mk pa0 [ex1c]
def ex1 : Ps := .mk pa0 [ex1b]
def ex2c : Ps := .mk ⟨1, 2, 0⟩ []
def ex2b : Ps := .mk ⟨1, 2, 1⟩ [ex2c]
def ex2 : Ps := .mk ⟨1, 2, 0⟩ [ex2b]
def exP : Ps := .mk ⟨0, 2, 0⟩ [ex1, ex2]
theorem by_form (b : Nat) : formB (byN b) = true := by simp [byN, hdB, formB, formL, formedB]
theorem exT_form : formB exT = true := by
  simp [exT, exG1, exAl, exG2, hdR, hdG, hdV, formB, formL, by_form, formedB, zeroS_no, plainB]
theorem exT_plain : plainN exT = true := by simp [exT, exG1, exAl, exG2, byN, hdB, hdR, hdG, hdV, plainN, plainL, onceB]
theorem exT_nodes : nodesN exT = 6 := by simp [exT, exG1, exAl, exG2, byN, nodesN, nodesL]
theorem exT_depth : depthN exT = 5 := by simp [exT, exG1, exAl, exG2, byN, hdB, hdR, hdG, hdV, depthN, depthA, deepB]; try decide
theorem exT_chk : chkN exT = 0 := by
  have h := size_nodes exT exT_form
  rw [exp_plain _ exT_form exT_plain, exT_nodes] at h
  unfold chkN
  rw [exT_form, exT_depth, h]
  decide
def exS : ByteArray := { data := #[97, 98] }
theorem exT_parse : parseN exS.size (leafB exS 0 0) exP exT = true := by
  have e0 : ((exS.size : Nat) : Int) = 2 := rfl
  have l1 : leafB exS 0 0 (hdB 97) 0 1 = true := by unfold leafB hdB; simp [e0]; rfl
  have l2 : leafB exS 0 0 (hdB 98) 1 2 = true := by unfold leafB hdB; simp [e0]; rfl
  have k1 : ∀ b, (hdB b).kind = 2 := fun _ => rfl
  simp [exP, ex1, ex1b, ex1c, ex1d, ex2, ex2b, ex2c, pa0, exT, exG1, exAl, exG2, byN, hdR, hdG, hdV, parseN, rowN, guardP, okB, ndsOf, admB, fullL, Ps.d, e0, k1, l1, l2]
theorem exT_spans : spansN exT exP 2 = [(0, 2), (1, 2), (-1, -1)] := by
  simp [spansN, spans0, exP, ex1, ex1b, ex1c, ex1d, ex2, ex2b, ex2c, pa0, exT, exG1, exAl, exG2, byN, hdB, hdR, hdG, hdV, walkN, walkR, ndsOf, setS, unsetN, unsetL, Ps.d]
theorem ex_cmp : cmpN ex1 ex2 = -1 := by simp [ex1, ex2, cmpN, cmpH, cmpI, lexI, pa0]
theorem by_word (b : Nat) (h : b = 97 ∨ b = 98) : wd (fun x => x == b) 0 = 0 ∧ wd (fun x => x == b) 1 = 2 ^ (b - 64) ∧ wd (fun x => x == b) 2 = 0 ∧ wd (fun x => x == b) 3 = 0 := by
  rcases h with rfl | rfl <;> exact ⟨by decide, by decide, by decide, by decide⟩

theorem by_lit97 : Value.agg #[.int .i64 2, .int .u64 0, .int .u64 8589934592, .int .u64 0, .int .u64 0, .slice none 0 0, .int .i64 0, .int .i64 0, .int .i64 0, .bool false] = nodeV (hdB 97) (.slice none 0 0) := by
  obtain ⟨h0, h1, h2, h3⟩ := by_word 97 (.inl rfl)
  unfold nodeV hdB
  simp only [h0, h1, h2, h3]
  rfl
theorem by_lit98 : Value.agg #[.int .i64 2, .int .u64 0, .int .u64 17179869184, .int .u64 0, .int .u64 0, .slice none 0 0, .int .i64 0, .int .i64 0, .int .i64 0, .bool false] = nodeV (hdB 98) (.slice none 0 0) := by
  obtain ⟨h0, h1, h2, h3⟩ := by_word 98 (.inr rfl)
  unfold nodeV hdB
  simp only [h0, h1, h2, h3]
  rfl

theorem lit3 {W : World} {g : Nat} {t : TypeId} (hB : Blk W g t #[.int .i64 0, .int .i64 2, .int .i64 1, .int .i64 2, .int .i64 (-1), .int .i64 (-1)]) : RdS W (.slice (some ⟨g, 0, none⟩) 3 3) [(0, 2), (1, 2), (-1, -1)] := by
  refine ⟨_, 3, rfl, fun j hj => ⟨g, 0, rfl, ?_⟩⟩
  have hj' : j = 0 ∨ j = 1 ∨ j = 2 := by simp at hj; omega
  rcases hj' with rfl | rfl | rfl <;> exact ⟨by rw [hB.cell]; rfl, by rw [hB.cell]; rfl⟩

set_option maxRecDepth 100000 in
set_option maxHeartbeats 8000000 in
theorem rlives_any (w : World) (A : Nat → Addr) (hE : Err3 w A) :
    Calls Tryd.prog 36 #[] w fun r w' => r = .returned (.bool true) ∧ Ext w w' := by
  have H98 := Lib.hid by_lit98
  have H97 := Lib.hid by_lit97
  have HER := Lib.hid hE
  clear hE
  go_enter Tryd.func36, Tryd.ntmps36
  go_upto_region 2 with (first
    | (have := s1; refine wpl_allocNd rfl rfl ?_; intro z2 w2 hz2 hx2 e2 s2)
    | (refine wpl_allocNd rfl rfl ?_; intro z1 w1 hz1 hx1 e1 s1)
    | (refine wpl_storeNd rfl _ _ rfl rfl z1 (hdB 97) _ (.slice none 0 0) _ rfl H97.out (isSl_mk _ _ _) (hz1.ext hx2) ?_; intro w3 hz3 hk3)
    | (refine wpl_storeNd rfl _ _ rfl rfl z2 (hdB 98) _ (.slice none 0 0) _ rfl H98.out (isSl_mk _ _ _) (hz2.keep1 hk3 (by omega)) ?_; intro w4 hz4 hk4))
  have ha := hz3.keep1 hk4 (by omega)
  have hx4 := (((hx1.trans hx2).keep1 hk3 e1).keep1 hk4 (by have := hx1.size; omega))
  clear hz1 hz2 hx1 hx2 hk3 hk4 e1 s1 e2 s2 hz3
  go_upto_region 3 with (first
    | (refine wpl_loadNd rfl _ rfl z1 0 (hdB 97) _ rfl ha.nd ?_)
    | (refine wpl_oneNd rfl _ rfl (hdB 97) (.slice none 0 0) rfl ?_; intro g5 w5 hg5 hx5 e5 s5)
    | (refine wpl_loadNd rfl _ rfl z2 0 (hdB 98) _ rfl (hz4.ext hx5).nd ?_)
    | (refine wpl_twoNd rfl _ _ rfl (hdG 2) (hdB 98) (.slice (some ⟨g5, 0, none⟩) 1 1) (.slice none 0 0) (node_lit _ _ _ _ _ _) rfl ?_; intro g6 w6 hg6 hg6' hx6 e6)
    | (refine wpl_allocNd rfl rfl ?_; intro z3 w7 hz3 hx7 e7 s7)
    | (refine wpl_storeNd rfl _ _ rfl rfl z3 (hdV 6) _ (.slice (some ⟨g6, 0, none⟩) 2 2) _ rfl (node_lit _ _ _ _ _ _) (isSl_mk _ _ _) hz3 ?_; intro w8 hz8 hk8))
  have h48 := ((hx5.trans hx6).trans hx7).keep1 hk8 (by have := hx5.size; have := hx6.size; omega)
  have ok5 : NdOk w5 exG2 (.slice (some ⟨g5, 0, none⟩) 1 1) := NdOk.one hg5.nd (NdOk.leaf _ _ _ _)
  have ok6 : NdOk w6 exAl (.slice (some ⟨g6, 0, none⟩) 2 2) := NdOk.two hg6 (ok5.ext hx6) hg6' (NdOk.leaf _ _ _ _)
  have ok8 := ok6.ext (hx7.keep1 hk8 e7)
  have hx8 := hx4.trans h48
  clear hx4 hx5 hx6 hx7 hk8 h48 e5 s5 e6 e7 s7 hz3 hg5 hg6 hg6' ha hz4 ok5 ok6
  go_upto_region 4 with (first
    | (refine wpl_loadNd rfl _ rfl z3 0 (hdV 6) _ rfl hz8.nd ?_)
    | (refine wpl_oneNd rfl _ rfl (hdV 6) (.slice (some ⟨g6, 0, none⟩) 2 2) rfl ?_; intro g9 w9 hg9 hx9 e9 s9)
    | (refine wpl_oneNd rfl _ rfl (hdG 1) (.slice (some ⟨g9, 0, none⟩) 1 1) (node_lit _ _ _ _ _ _) ?_; intro g10 w10 hg10 hx10 e10 s10)
    | (refine wpl_allocNd rfl rfl ?_; intro z4 w11 hz4 hx11 e11 s11)
    | (refine wpl_storeNd rfl _ _ rfl rfl z4 hdR _ (.slice (some ⟨g10, 0, none⟩) 1 1) _ rfl (node_lit _ _ _ _ _ _) (isSl_mk _ _ _) hz4 ?_; intro w12 hz12 hk12))
  have h812 := ((hx9.trans hx10).trans hx11).keep1 hk12 (by have := hx9.size; have := hx10.size; omega)
  have ok9 : NdOk w9 exG1 (.slice (some ⟨g9, 0, none⟩) 1 1) := NdOk.one hg9.nd (ok8.ext hx9)
  have ok10 : NdOk w10 exT (.slice (some ⟨g10, 0, none⟩) 1 1) := NdOk.one hg10.nd (ok9.ext hx10)
  have ok12 := ok10.ext (hx11.keep1 hk12 e11)
  have hx12 := hx8.trans h812
  clear hx8 hx9 hx10 hx11 hk12 h812 e9 s9 e10 s10 e11 s11 hz4 hg9 hg10 hz8 ok8 ok9 ok10
  go_upto_region 5 with (first
    | (have := e14; refine wpl_onePs rfl _ rfl pa0 (.slice (some ⟨g14, 0, none⟩) 1 1) rfl ?_; intro g15 w15 hg15 hx15 e15)
    | (have := e13; refine wpl_onePs rfl _ rfl pa0 (.slice (some ⟨g13, 0, none⟩) 1 1) rfl ?_; intro g14 w14 hg14 hx14 e14)
    | (refine wpl_onePs rfl _ rfl pa0 (.slice none 0 0) rfl ?_; intro g13 w13 hg13 hx13 e13)
    | (refine wpl_allocPs rfl rfl ?_; intro z5 w16 hz5 hx16 e16 s16)
    | (refine wpl_storePs rfl _ _ rfl rfl z5 pa0 _ (.slice (some ⟨g15, 0, none⟩) 1 1) _ rfl rfl (isSl_mk _ _ _) hz5 ?_; intro w17 hz17 hk17))
  have p13 : PsOk w13 ex1c (.slice (some ⟨g13, 0, none⟩) 1 1) := PsOk.one hg13 (PsOk.leaf _ _ _ _)
  have p14 : PsOk w14 ex1b (.slice (some ⟨g14, 0, none⟩) 1 1) := PsOk.one hg14 (p13.ext hx14)
  have p15 : PsOk w15 ex1 (.slice (some ⟨g15, 0, none⟩) 1 1) := PsOk.one hg15 (p14.ext hx15)
  have p17 := p15.ext (hx16.keep1 hk17 e16)
  have h1217 := (((hx13.trans hx14).trans hx15).trans hx16).keep1 hk17 (by have := hx13.size; have := hx14.size; have := hx15.size; omega)
  have ok17 := ok12.ext h1217
  have hz4 := hz12.ext h1217
  have hx17 := hx12.trans h1217
  clear hx12 hx13 hx14 hx15 hx16 hk17 h1217 e13 e14 e15 e16 s16 hz5 hg13 hg14 hg15 p13 p14 p15 ok12 hz12
  go_upto_region 6 with (first
    | (have := e18; refine wpl_onePs rfl _ rfl ⟨1, 2, 1⟩ (.slice (some ⟨g18, 0, none⟩) 1 1) rfl ?_; intro g19 w19 hg19 hx19 e19)
    | (refine wpl_onePs rfl _ rfl ⟨1, 2, 0⟩ (.slice none 0 0) rfl ?_; intro g18 w18 hg18 hx18 e18)
    | (refine wpl_allocPs rfl rfl ?_; intro z6 w20 hz6 hx20 e20 s20)
    | (refine wpl_storePs rfl _ _ rfl rfl z6 ⟨1, 2, 0⟩ _ (.slice (some ⟨g19, 0, none⟩) 1 1) _ rfl rfl (isSl_mk _ _ _) hz6 ?_; intro w21 hz21 hk21))
  have p18 : PsOk w18 ex2b (.slice (some ⟨g18, 0, none⟩) 1 1) := PsOk.one hg18 (PsOk.leaf _ _ _ _)
  have p19 : PsOk w19 ex2 (.slice (some ⟨g19, 0, none⟩) 1 1) := PsOk.one hg19 (p18.ext hx19)
  have q21 := p19.ext (hx20.keep1 hk21 e20)
  have h1721 := ((hx18.trans hx19).trans hx20).keep1 hk21 (by have := hx18.size; have := hx19.size; omega)
  have p21 := p17.ext h1721
  have ok21 := ok17.ext h1721
  have hz4' := hz4.ext h1721
  have hz5' := hz17.ext h1721
  have hx21 := hx17.trans h1721
  clear hx17 hx18 hx19 hx20 hk21 h1721 e18 e19 e20 s20 hz6 hg18 hg19 p18 p19 p17 ok17 hz4 hz17
  have he4 : nodeA hdR (.slice (some ⟨g10, 0, none⟩) 1 1) = #[.int .i64 8, .int .u64 0, .int .u64 0, .int .u64 0, .int .u64 0, .slice (some ⟨g10, 0, none⟩) 1 1, .int .i64 0, .int .i64 0, .int .i64 (-1), .bool false] := by
    simp only [nodeA, nodeC, hdR]
    rfl
  rw [he4] at hz4'
  have KS := Lib.hid (fun w' (hw' : Ext w21 w') => (⟨⟨(hz4'.ext hw').cell 0, (hz4'.ext hw').cell 1, (hz4'.ext hw').cell 2, (hz4'.ext hw').cell 3, (hz4'.ext hw').cell 4, (hz4'.ext hw').cell 5, (hz4'.ext hw').cell 6, (hz4'.ext hw').cell 7, (hz4'.ext hw').cell 8, (hz4'.ext hw').cell 9⟩,
    ⟨(hz5'.ext hw').cell 0, (hz5'.ext hw').cell 1, (hz5'.ext hw').cell 2, (hz5'.ext hw').cell 3⟩, ⟨(hz21.ext hw').cell 0, (hz21.ext hw').cell 1, (hz21.ext hw').cell 2, (hz21.ext hw').cell 3⟩⟩ :
    (w'.cell? ⟨z4, 0, none⟩ = some (.int .i64 8) ∧ w'.cell? ⟨z4, 1, none⟩ = some (.int .u64 0) ∧ w'.cell? ⟨z4, 2, none⟩ = some (.int .u64 0) ∧ w'.cell? ⟨z4, 3, none⟩ = some (.int .u64 0) ∧ w'.cell? ⟨z4, 4, none⟩ = some (.int .u64 0) ∧ w'.cell? ⟨z4, 5, none⟩ = some (.slice (some ⟨g10, 0, none⟩) 1 1) ∧ w'.cell? ⟨z4, 6, none⟩ = some (.int .i64 0) ∧ w'.cell? ⟨z4, 7, none⟩ = some (.int .i64 0) ∧ w'.cell? ⟨z4, 8, none⟩ = some (.int .i64 (-1)) ∧ w'.cell? ⟨z4, 9, none⟩ = some (.bool false)) ∧
    (w'.cell? ⟨z5, 0, none⟩ = some (.int .i64 0) ∧ w'.cell? ⟨z5, 1, none⟩ = some (.int .i64 1) ∧ w'.cell? ⟨z5, 2, none⟩ = some (.int .i64 0) ∧ w'.cell? ⟨z5, 3, none⟩ = some (.slice (some ⟨g15, 0, none⟩) 1 1)) ∧
    (w'.cell? ⟨z6, 0, none⟩ = some (.int .i64 1) ∧ w'.cell? ⟨z6, 1, none⟩ = some (.int .i64 2) ∧ w'.cell? ⟨z6, 2, none⟩ = some (.int .i64 0) ∧ w'.cell? ⟨z6, 3, none⟩ = some (.slice (some ⟨g19, 0, none⟩) 1 1))))
  have HNew := Lib.hid (fun W => new_any exS 0 0 W (by decide))
  have HSp := Lib.hid (fun W p gB cB (hW : Ext w21 W) (hs : IsScene W p exS (mkAt exS 0 0 exS.size)) (hB : Blk W gB 60 #[.int .i64 0, .int .i64 1, .int .i64 0, .slice (some ⟨g15, 0, none⟩) 1 1, .int .i64 1, .int .i64 2, .int .i64 0, .slice (some ⟨g19, 0, none⟩) 1 1]) => (by
    have hB4 : PsAt W gB 0 ex1.d (.slice (some ⟨g15, 0, none⟩) 1 1) := fun i hi => by
      rw [hB.cell]
      match i, hi with
      | 0, _ => rfl
      | 1, _ => rfl
      | 2, _ => rfl
      | 3, _ => rfl
    have hB8 : PsAt W gB 4 ex2.d (.slice (some ⟨g19, 0, none⟩) 1 1) := fun i hi => by
      rw [hB.cell]
      match i, hi with
      | 0, _ => rfl
      | 1, _ => rfl
      | 2, _ => rfl
      | 3, _ => rfl
    have hP : PsOk W exP (.slice (some ⟨gB, 0, none⟩) 2 cB) := PsOk.two hB4 (p21.ext hW) hB8 (q21.ext hW)
    have := spansR_any (s := exS) (c := 0) (e := 0) (x := p) exT _ exP _ 2 W A 100 (ok21.ext hW) hP (HER.out.ext (hx21.trans hW)) (by decide) (left_few (by rw [exT_nodes]; decide)) (by simp [exP, ex1, ex1b, ex1c, ex1d, ex2, ex2b, ex2c, smallP, smallPL]) hs (by decide)
    refine this.mono ?_
    intro r w' hr
    have hok : okSp exS 0 0 exT exP 2 = true := by simp [okSp, checkN, exT_chk, exT_parse]
    rcases hr with ⟨h0, _⟩ | ⟨_, g, cp, h1, h2, h3⟩
    · rw [hok] at h0; cases h0
    · rw [show (2 : Int).toNat = 2 from rfl, exT_spans] at h1 h2
      exact ⟨g, cp, h1, h2, h3⟩ : Calls Tryd.prog 41 #[.agg #[.int .i64 8, .int .u64 0, .int .u64 0, .int .u64 0, .int .u64 0, .slice (some ⟨g10, 0, none⟩) 1 1, .int .i64 0, .int .i64 0, .int .i64 (-1), .bool false], p, .agg #[.int .i64 0, .int .i64 2, .int .i64 0, .slice (some ⟨gB, 0, none⟩) 2 cB], .int .i64 2] W fun r w' => ∃ g cp, r = .returned (.tuple #[.slice (some ⟨g, 0, none⟩) 3 cp, .bool true]) ∧ OwnSp w' W.heap.size (.slice (some ⟨g, 0, none⟩) 3 cp) [(0, 2), (1, 2), (-1, -1)] ∧ Ext W w'))
  have HF5 := Lib.hid (fun w' (hw' : Ext w21 w') => ((hz5'.ext hw').ps : PsAt w' z5 0 pa0 (.slice (some ⟨g15, 0, none⟩) 1 1)))
  have HF6 := Lib.hid (fun w' (hw' : Ext w21 w') => ((hz21.ext hw').ps : PsAt w' z6 0 ⟨1, 2, 0⟩ (.slice (some ⟨g19, 0, none⟩) 1 1)))
  have HCP := Lib.hid (fun w' (hw' : Ext w21 w') => (by
    have := compare_any ex1 _ ex2 _ w' (p21.ext hw') (q21.ext hw') (by simp [ex1, ex1b, ex1c, ex1d, smallP, smallPL])
    rwa [ex_cmp] at this : Calls Tryd.prog 44 #[psV pa0 (.slice (some ⟨g15, 0, none⟩) 1 1), psV ⟨1, 2, 0⟩ (.slice (some ⟨g19, 0, none⟩) 1 1)] w' fun r w'' => r = .returned (.int .i64 (-1)) ∧ Ext w' w''))
  go_upto_region 6 with fail
  clear hz4' hz5' hz21 ok21 p21 q21 he4 H97 H98
  go_region_held3 (fun w' => (w'.cell? ⟨z4, 0, none⟩ = some (.int .i64 8) ∧ w'.cell? ⟨z4, 1, none⟩ = some (.int .u64 0) ∧ w'.cell? ⟨z4, 2, none⟩ = some (.int .u64 0) ∧ w'.cell? ⟨z4, 3, none⟩ = some (.int .u64 0) ∧ w'.cell? ⟨z4, 4, none⟩ = some (.int .u64 0) ∧ w'.cell? ⟨z4, 5, none⟩ = some (.slice (some ⟨g10, 0, none⟩) 1 1) ∧ w'.cell? ⟨z4, 6, none⟩ = some (.int .i64 0) ∧ w'.cell? ⟨z4, 7, none⟩ = some (.int .i64 0) ∧ w'.cell? ⟨z4, 8, none⟩ = some (.int .i64 (-1)) ∧ w'.cell? ⟨z4, 9, none⟩ = some (.bool false)) ∧
    (w'.cell? ⟨z5, 0, none⟩ = some (.int .i64 0) ∧ w'.cell? ⟨z5, 1, none⟩ = some (.int .i64 1) ∧ w'.cell? ⟨z5, 2, none⟩ = some (.int .i64 0) ∧ w'.cell? ⟨z5, 3, none⟩ = some (.slice (some ⟨g15, 0, none⟩) 1 1)) ∧
    (w'.cell? ⟨z6, 0, none⟩ = some (.int .i64 1) ∧ w'.cell? ⟨z6, 1, none⟩ = some (.int .i64 2) ∧ w'.cell? ⟨z6, 2, none⟩ = some (.int .i64 0) ∧ w'.cell? ⟨z6, 3, none⟩ = some (.slice (some ⟨g19, 0, none⟩) 1 1)))
    ((first | exact KS.out _ (Ext.refl _).drew | exact KS.out _ hX30 | exact KS.out _ (hXN.alloc _) | exact KS.out _ hXN | exact KS.out _ ((Ext.refl _).drew.alloc _)))
    (first
      | (go_at_call 38; refine (HNew.out _).mono ?_; rintro e wN ⟨⟨pN, rfl, hsN⟩, hxN⟩; have hXN : Ext w21 wN := (Ext.refl w21).drewr.trans hxN)
      | (go_at_call 38; refine (HNew.out _).mono ?_; rintro e wN ⟨⟨pN, rfl, hsN⟩, hxN⟩; have hXN : Ext w21 wN := ((Ext.refl w21).drewr.alloc _).trans hxN; have hBN : Blk wN w21.heap.size 60 #[.int .i64 0, .int .i64 1, .int .i64 0, .slice (some ⟨g15, 0, none⟩) 1 1, .int .i64 1, .int .i64 2, .int .i64 0, .slice (some ⟨g19, 0, none⟩) 1 1] := (Blk.new w21.drew _ _).ext hxN)
      | (go_at_call 41; ((with_reducible refine (HSp.out _ pN _ 2 (hXN.alloc _) (hsN.ext ((Ext.refl wN).alloc _)) (Blk.new wN _ _)).mono ?_); rintro e w30 ⟨g30, c30, rfl, hO30, hx30⟩; have hX30 : Ext w21 w30 := ((hXN.alloc _).trans hx30)))
      | (go_at_call 41; ((with_reducible refine (HSp.out _ pN w21.heap.size 2 hXN hsN hBN).mono ?_); rintro e w30 ⟨g30, c30, rfl, hO30, hx30⟩; have hX30 : Ext w21 w30 := hXN.trans hx30)))
  all_goals
    have hR30 := RdS.of_own hO30
    have hF5 := HF5.out w30 hX30
    have hF6 := HF6.out w30 hX30
    have HSm := Lib.hid (fun W g (hW : Ext w30 W) (hB : Blk W g 74 #[.int .i64 0, .int .i64 2, .int .i64 1, .int .i64 2, .int .i64 (-1), .int .i64 (-1)]) => sameSpans_any _ _ _ _ W (by decide) (hR30.ext hW) (lit3 hB))
    have HCm := Lib.hid (fun W (hW : Ext w30 W) => HCP.out W (hX30.trans hW))
    have hX := hx21.trans hX30
    clear hsN hxN hXN hx30 hO30 hR30 HSp HNew KS HCP HF5 HF6 HER hx21 hX30
    go_wp2_with (first
      | (go_at_call 43; ((with_reducible refine (HSm.out _ _ ((Ext.refl w30).alloc _) (Blk.new w30 _ _)).mono ?_); rintro e w31 ⟨rfl, hx31⟩; have hX31 : Ext w30 w31 := ((Ext.refl w30).alloc _).trans hx31))
      | (refine wpl_loadPsG _ rfl rfl z5 0 pa0 _ rfl (hF5.ext hX31) ?_)
      | (refine wpl_loadPsG _ rfl rfl z6 0 ⟨1, 2, 0⟩ _ rfl (hF6.ext hX31) ?_)
      | (go_at_call 44; refine (HCm.out _ hX31).mono ?_; rintro e w32 ⟨rfl, hx32⟩))
    go_ret
    exact ⟨rfl, (hX.trans hX31).trans hx32⟩

end Go.Proofs.YthddlhpndaffjaaDoor
