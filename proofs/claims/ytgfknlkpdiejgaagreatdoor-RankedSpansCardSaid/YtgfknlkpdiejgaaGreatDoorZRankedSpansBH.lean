/- The three error values out of the 21. No condition. RankedSpans as a walk. Condition: the tree lies in memory; the error values and the library's table lie where they lie. -/
import Derived.Test.YtgfknlkpdiejgaaGreatDoorErrs
import Derived.Test.YtgfknlkpdiejgaaGreatDoorZRankedSpansAG
import Derived.Test.YtgfknlkpdiejgaaGreatDoorZRankedSpansAH
import Derived.Test.YtgfknlkpdiejgaaGreatDoorZRankedSpansAV
import Derived.Test.YtgfknlkpdiejgaaGreatDoorZRankedSpansBF
import Derived.Test.YtgfknlkpdiejgaaGreatDoorZRankedSpansBG
import Derived.Test.YtgfknlkpdiejgaaGreatDoorZRankedSpansAX
import Derived.Test.YtgfknlkpdiejgaaGreatDoorZRankedSpansAZ
import Derived.Deep.RegionHeld3
import Derived.BigQuiet
namespace Go.Proofs.YtgfknlkpdiejgaaGreatDoor
open Go.RowKit Go.Extern.Stop Go.Stop Go.Extern

theorem ErrsAt.three {w : World} {A : Nat → Addr} (h : ErrsAt w A) : Err3 w A := by
  have v9 := h.var 9 (by omega)
  have v12 := h.var 12 (by omega)
  have v13 := h.var 13 (by omega)
  simp only [gb, gbs, List.getD_cons_zero, List.getD_cons_succ] at v9 v12 v13
  exact ⟨v9, v12, v13⟩

end Go.Proofs.YtgfknlkpdiejgaaGreatDoor

namespace Go.Proofs.YtgfknlkpdiejgaaGreatDoor
open Go Go.RowKit

theorem IsScene.keepz {W W' : World} {x : Value} {s : ByteArray} {m : List UInt8} {z : Nat} {cs : Array Value} (h : IsScene W x s m) (hz : Blk W z 35 cs) (hk : Keeps (· = z) W W') : IsScene W' x s m := by
  obtain ⟨g, g', h0, h1, h2⟩ := h
  exact ⟨g, g', h0, h1.keep1 hk (h1.ne hz (by decide)), h2.keep1 hk (h2.ne hz (by decide))⟩
theorem NdNew.keepHi {B : Nat} {w w1 : World} {g : Nat} {n : Nd} {sv : Value} (h : NdNew B w n sv) (k : Keeps (· = g) w w1) (hg : w.heap.size ≤ g) : NdNew B w1 n sv := by
  obtain ⟨fp, h1, h2, h3⟩ := h
  exact ⟨fp, h1.keep (fun b hb => sameAt_of_block (k.block b (h3 b hb).2 (fun e => by have := (h3 b hb).2; omega))), h2, fun b hb => ⟨(h3 b hb).1, Nat.lt_of_lt_of_le (h3 b hb).2 k.size⟩⟩
theorem ask_dup (t : Nd) (n : Nat) (G a : Int) : askN t n G [a, a] = askN t n G [a] := by
  unfold askN outB
  simp
theorem ask_le {t : Nd} {n : Nat} {G : Int} {ats : List Int} : askN t n G ats ≤ 21 := by
  have h1 : chkN t ≤ 21 := by unfold chkN; split <;> (try split) <;> (try split) <;> omega
  unfold askN
  split
  · exact h1
  · split <;> omega
theorem spn_len {L : Hd → Int → Int → Bool} {t : Nd} {i j g : Nat} {l : List (Int × Int)} (h : spnL L t i j g = some l) : l.length = g + 1 := by
  unfold spnL at h
  split at h
  · simp only [Option.some.injEq] at h
    rw [← h, toldN_len]
  · cases h
theorem fnd_len {L : Hd → Int → Int → Bool} {n : Nat} {t : Nd} {i g : Nat} {l : List (Int × Int)} (h : fndL L n t i g = some l) : l.length = g + 1 := by
  unfold fndL at h
  rw [Option.map_eq_some_iff] at h
  obtain ⟨p, _, h2⟩ := h
  rw [← h2, toldN_len]

set_option maxRecDepth 100000 in
set_option maxHeartbeats 16000000 in
theorem rankedSpans_walk (t : Nd) (svn : Value) (s : ByteArray) (c e fr tt G : Int) (w : World) (A : Nat → Addr) (hn : NdCap w t svn) (hE : ErrsAt w A) (hT : Tab w) (hsW : s.size ≤ 200000000000000) :
    Calls Tryz.prog 4 #[nodeV t.h svn, .agg #[.string s, .int .i64 c, .int .i64 e], .int .i64 fr, .int .i64 tt, .int .i64 G] w fun r w' => r = .returned (.bool true) ∧ Ext w w' := by
  have v14 : w.cell? ⟨14, 0, none⟩ = some (errV (A 14)) := by
    have := hE.var 14 (by omega)
    simp only [gb, gbs, List.getD_cons_zero, List.getD_cons_succ] at this
    exact this
  have HL := Lib.hid (fun W (hW : Ext w W) => lives22_any W A (hE.three.ext hW) (hW.cell v14) (hT.ext hW))
  have HG := Lib.hid (fun W (hW : Ext w W) => long_any t svn s c e 60000 W (NdOk.ext hW _ _ hn.ok))
  have HN := Lib.hid (fun W => newW_any s c e W hsW)
  have HFd := Lib.hid (fun (h : 0 ≤ leftN t 2500) (hs : chkN t = 0 → s.size ≤ 150) W x svm (hW : Ext w W) (hM : NdCap W t svm) (hS : IsScene W x s (mkAt s c e s.size)) => spans22_any t svm fr tt G W A 2500 hM hS (hT.ext hW) (hE.three.ext hW) (hW.cell v14) (by omega) h (fun hc => ⟨by have := hs hc; omega, by rw [mkAt_len]; have := hs hc; omega⟩) hsW)
  have HAs := Lib.hid (fun (h : 0 ≤ leftN t 2500) W (hW : Ext w W) => rasked_any (s := s) (c := c) (e := e) t svn G fr tt 2500 W (NdOk.ext hW _ _ hn.ok) (by omega) h)
  have HCP := Lib.hid (fun (h : 0 ≤ leftN t 2500) W (hW : Ext w W) => copyNode_any t svn W (NdOk.ext hW _ _ hn.ok) (small_left t 2500 (by omega) h))
  have HOK := Lib.hid (long_ok (t := t) (s := s) (most := 60000))
  have HEE := Lib.hid hE
  have HNN := Lib.hid hn
  have hsl := hn.ok.sl
  clear hn hE v14 hT
  generalize longT t s 60000 = lg at *
  obtain ⟨h, hh⟩ : ∃ h, h = t.h := ⟨_, rfl⟩
  rw [← hh] at HG HFd HAs HCP ⊢
  have HHH := Lib.hid hh
  clear hh
  go_enter Tryz.func4, Tryz.ntmps4
  go_upto_region 1 with (refine wpl_boxNd rfl _ rfl h _ rfl ?_; intro z w1 hb hx1 ex sx)
  have hV := Blk.new w1 29 #[.string s, .int .i64 c, .int .i64 e]
  have hx2 := hx1.alloc (.cells #[.string s, .int .i64 c, .int .i64 e] 29)
  replace hb := hb.ext ((Ext.refl w1).alloc (.cells #[.string s, .int .i64 c, .int .i64 e] 29))
  generalize w1.alloc (.cells #[.string s, .int .i64 c, .int .i64 e] 29) = w2 at *
  generalize w1.heap.size = gu at *
  have HX2 := Lib.hid hx2
  have HK := Lib.hid (fun W (hW : Ext w2 W) => (⟨(hV.ext hW).cell 0, (hV.ext hW).cell 1, (hV.ext hW).cell 2⟩ : W.cell? ⟨gu, 0, none⟩ = some (.string s) ∧ W.cell? ⟨gu, 1, none⟩ = some (.int .i64 c) ∧ W.cell? ⟨gu, 2, none⟩ = some (.int .i64 e)))
  have HA := Lib.hid (fun W (hW : Ext w2 W) => (hb.ext hW).nd)
  clear hV hb hx1 ex sx hx2
  have HL2 := Lib.hid (HL.out w2 HX2.out)
  have HXA : Hid (∀ W, Ext w2 W → Ext w W) := Lib.hid (fun W hW => HX2.out.trans hW)
  by_cases hlg : lg = true
  · subst hlg
    clear HN HFd HOK HAs HCP
    go_wp2_with (first
      | (go_at_call 5; refine HL2.out.mono ?_; rintro e w3 ⟨rfl, hx3⟩; obtain ⟨k0, k1, k2⟩ := HK.out _ hx3)
      | (refine wpl_loadNd rfl _ rfl z 0 h _ rfl (HA.out _ hx3) ?_)
      | (go_at_call 6; refine (HG.out _ (HXA.out _ hx3)).mono ?_; rintro e w4 ⟨rfl, hx4⟩))
    go_ret
    exact ⟨rfl, (HXA.out _ hx3).trans hx4⟩
  have hlg' : lg = false := by simpa using hlg
  clear hlg
  subst hlg'
  obtain ⟨h1, h2⟩ := HOK.out rfl
  have HF2 := Lib.hid (HFd.out h1 h2)
  have HA2 := Lib.hid (HAs.out h1)
  have HCP2 := Lib.hid (HCP.out h1)
  have H150 := Lib.hid h2
  have HFW := Lib.hid h1
  clear HOK HFd HAs HCP h1 h2
  go_upto_region 5 with (first
    | (go_at_call 5; refine HL2.out.mono ?_; rintro e w3 ⟨rfl, hx3⟩; obtain ⟨k0, k1, k2⟩ := HK.out _ hx3)
    | (refine wpl_loadNd rfl _ rfl z 0 h _ rfl (HA.out _ hx3) ?_)
    | (go_at_call 6; refine (HG.out _ (HXA.out _ hx3)).mono ?_; rintro e w4 ⟨rfl, hx4⟩))
  try simp only [Act.put, List.setIfInBounds_toArray, List.set_cons_zero, List.set_cons_succ]
  have HX4 := Lib.hid (hx3.trans hx4)
  have HK4 := Lib.hid (fun W (hW : Ext w4 W) => HK.out W (HX4.out.trans hW))
  clear k0 k1 k2 hx3 hx4 HL2 HL HG HK
  have HKW : Hid (∀ W, Ext w4 W → W.cell? ⟨gu, 0, none⟩ = some (.string s) ∧ W.cell? ⟨gu, 1, none⟩ = some (.int .i64 c) ∧ W.cell? ⟨gu, 2, none⟩ = some (.int .i64 e)) := HK4
  go_cut [11, 12] (fun xv rv wx => ∃ g, rv = .pointer (some ⟨g, 0, none⟩) ∧ IsScene wx xv s (mkAt s c e s.size) ∧ Blk wx g 35 #[.string s, .int .i64 c, .int .i64 e, .bool false] ∧ Ext w4 wx)
  case first =>
    obtain ⟨T, hT⟩ : ∃ T : (Nat → Value) → Act, ∀ u, T u = { tmps := #[nodeV h svn, .agg #[.string s, .int .i64 c, .int .i64 e], .int .i64 fr, .int .i64 tt, .int .i64 G, .pointer (some ⟨z, 0, none⟩), .pointer (some ⟨gu, 0, none⟩), undef, undef, undef, .bool false, u 15, u 14, undef, undef, undef, undef, undef, undef, undef, undef, undef, undef, undef, .bool true, .bool false, nodeV h svn, .agg #[.string s, .int .i64 c, .int .i64 e], .bool false, u 0, u 1, u 2, u 3, u 4, u 5, u 6, u 7, u 8, u 9, u 10, u 11, u 12, u 13, undef, undef, undef, undef, undef, undef, undef, undef, undef, undef, undef, undef, undef, undef, undef, undef, undef, undef, undef, undef, undef, undef, undef, undef, undef, undef, undef, undef, undef, undef, undef, undef, undef, undef, undef, undef, undef, undef, undef, undef, undef, undef, undef, undef, undef, undef, undef, undef, undef, undef, undef, undef, undef, undef, undef, undef, undef, undef, undef, undef, undef, undef, undef, undef, undef, undef, undef, undef, undef, undef, undef, undef, undef, undef, undef, undef, undef, undef], defers := [] } := ⟨_, fun _ => rfl⟩
    refine wp_region_predT 16 [fun v _ => v = .pointer (some ⟨gu, 0, none⟩), fun v _ => v = .string s, fun v _ => v = .pointer (some ⟨gu, 1, none⟩), fun v _ => v = .int .i64 c, fun v _ => v = .pointer (some ⟨gu, 2, none⟩), fun v _ => v = .int .i64 e, (fun (v : Value) (W : World) => IsScene W v s (mkAt s c e s.size)), fun v _ => v = .pointer (some ⟨gu, 0, none⟩), fun v _ => v = .string s, fun v _ => v = .pointer (some ⟨gu, 1, none⟩), fun v _ => v = .int .i64 c, fun v _ => v = .pointer (some ⟨gu, 2, none⟩), fun v _ => v = .int .i64 e, fun v _ => v = .agg #[.string s, .int .i64 c, .int .i64 e, .bool false], (fun (v : Value) (W : World) => ∃ z, v = .pointer (some ⟨z, 0, none⟩) ∧ Blk W z 35 #[.string ⟨#[]⟩, .int .i64 0, .int .i64 0, .bool false] ∧ w4.heap.size ≤ z), (fun (v : Value) (W : World) => IsScene W v s (mkAt s c e s.size))] (((Lasts.nil.cons fun (v : Value) V V' hx (h : IsScene V v s (mkAt s c e s.size)) => (h.ext hx : IsScene V' v s (mkAt s c e s.size))).cons fun (v : Value) V V' hx ⟨z, h1, h2, h3⟩ => ⟨z, h1, h2.ext hx, h3⟩).is.is.is.is.is.is.is.cons fun (v : Value) V V' hx (h : IsScene V v s (mkAt s c e s.size)) => (h.ext hx : IsScene V' v s (mkAt s c e s.size))).is.is.is.is.is.is T (fun _ => undef) (hT _) (by kernel_rfl) (by kernel_rfl) (by kernel_rfl) (by kernel_rfl) (by kernel_rfl) (by kernel_rfl) ?_
    simp only [List.take_succ_cons, List.take_zero, List.drop_succ_cons, List.drop_zero, AllS, Nat.reduceAdd]
    refine ⟨⟨?_, ?_, ?_, ?_, ?_, ?_, ?_, ?_, ?_, ?_, ?_, ?_, ?_, ?_, ?_, ?_, trivial⟩, ?_⟩
    · intro u W' hx hd'
      clear hd'
      rw [hT u]
      go_wp2
      exact stepQ_mk ⟨Ext.refl _, _, by first | (rw [hT]; simp [updN]) | simp [updN], rfl⟩
    · intro u W' hx hd'
      have t0 : u 0 = _ := hd' 0 (mem_of (by kernel_rfl))
      clear hd'
      rw [hT u, t0]
      have qf := (HKW.out W' hx).1
      go_wp2
      exact stepQ_mk ⟨Ext.refl _, _, by first | (rw [hT]; simp [updN, t0]) | simp [updN, t0], rfl⟩
    · intro u W' hx hd'
      clear hd'
      rw [hT u]
      go_wp2
      exact stepQ_mk ⟨Ext.refl _, _, by first | (rw [hT]; simp [updN]) | simp [updN], rfl⟩
    · intro u W' hx hd'
      have t2 : u 2 = _ := hd' 2 (mem_of (by kernel_rfl))
      clear hd'
      rw [hT u, t2]
      have qf := (HKW.out W' hx).2.1
      go_wp2
      exact stepQ_mk ⟨Ext.refl _, _, by first | (rw [hT]; simp [updN, t2]) | simp [updN, t2], rfl⟩
    · intro u W' hx hd'
      clear hd'
      rw [hT u]
      go_wp2
      exact stepQ_mk ⟨Ext.refl _, _, by first | (rw [hT]; simp [updN]) | simp [updN], rfl⟩
    · intro u W' hx hd'
      have t4 : u 4 = _ := hd' 4 (mem_of (by kernel_rfl))
      clear hd'
      rw [hT u, t4]
      have qf := (HKW.out W' hx).2.2
      go_wp2
      exact stepQ_mk ⟨Ext.refl _, _, by first | (rw [hT]; simp [updN, t4]) | simp [updN, t4], rfl⟩
    · intro u W' hx hd'
      have t1 : u 1 = _ := hd' 1 (mem_of (by kernel_rfl))
      have t3 : u 3 = _ := hd' 3 (mem_of (by kernel_rfl))
      have t5 : u 5 = _ := hd' 5 (mem_of (by kernel_rfl))
      clear hd'
      rw [hT u, t1, t3, t5]
      go_wp2_with (go_at_call 7; refine (HN.out _).mono ?_; rintro e w6 ⟨⟨xv, rfl, hS⟩, hx6⟩)
      exact stepQ_mk ⟨hx6, xv, by first | (rw [hT]; simp [updN, t1, t3, t5]) | simp [updN, t1, t3, t5], hS⟩
    · intro u W' hx hd'
      clear hd'
      rw [hT u]
      go_wp2
      exact stepQ_mk ⟨Ext.refl _, _, by first | (rw [hT]; simp [updN]) | simp [updN], rfl⟩
    · intro u W' hx hd'
      have t7 : u 7 = _ := hd' 7 (mem_of (by kernel_rfl))
      clear hd'
      rw [hT u, t7]
      have qf := (HKW.out W' hx).1
      go_wp2
      exact stepQ_mk ⟨Ext.refl _, _, by first | (rw [hT]; simp [updN, t7]) | simp [updN, t7], rfl⟩
    · intro u W' hx hd'
      clear hd'
      rw [hT u]
      go_wp2
      exact stepQ_mk ⟨Ext.refl _, _, by first | (rw [hT]; simp [updN]) | simp [updN], rfl⟩
    · intro u W' hx hd'
      have t9 : u 9 = _ := hd' 9 (mem_of (by kernel_rfl))
      clear hd'
      rw [hT u, t9]
      have qf := (HKW.out W' hx).2.1
      go_wp2
      exact stepQ_mk ⟨Ext.refl _, _, by first | (rw [hT]; simp [updN, t9]) | simp [updN, t9], rfl⟩
    · intro u W' hx hd'
      clear hd'
      rw [hT u]
      go_wp2
      exact stepQ_mk ⟨Ext.refl _, _, by first | (rw [hT]; simp [updN]) | simp [updN], rfl⟩
    · intro u W' hx hd'
      have t11 : u 11 = _ := hd' 11 (mem_of (by kernel_rfl))
      clear hd'
      rw [hT u, t11]
      have qf := (HKW.out W' hx).2.2
      go_wp2
      exact stepQ_mk ⟨Ext.refl _, _, by first | (rw [hT]; simp [updN, t11]) | simp [updN, t11], rfl⟩
    · intro u W' hx hd'
      have t8 : u 8 = _ := hd' 8 (mem_of (by kernel_rfl))
      have t10 : u 10 = _ := hd' 10 (mem_of (by kernel_rfl))
      have t12 : u 12 = _ := hd' 12 (mem_of (by kernel_rfl))
      clear hd'
      rw [hT u, t8, t10, t12]
      go_wp2
      exact stepQ_mk ⟨Ext.refl _, _, by first | (rw [hT]; simp [updN, t8, t10, t12]) | simp [updN, t8, t10, t12], rfl⟩
    · intro u W' hx hd'
      clear hd'
      rw [hT u]
      go_wp2_with (refine wpl_allocSc rfl rfl ?_; intro z6 w6 hz6 hx6 e6)
      exact stepQ_mk ⟨hx6, .pointer (some ⟨z6, 0, none⟩), by first | (rw [hT]; simp [updN]) | simp [updN], ⟨z6, rfl, hz6, Nat.le_trans hx.size e6⟩⟩
    · intro u W' hx hd'
      have ok : IsScene W' (u 6) s (mkAt s c e s.size) := hd' 6 (mem_of (by kernel_rfl))
      clear hd'
      rw [hT u]
      go_wp2
      exact stepQ_mk ⟨Ext.refl _, u 6, by first | (rw [hT]; simp [updN]) | simp [updN], ok⟩
    · intro u W' hx hp
      obtain ⟨z, e14, hz, hze⟩ := hp 14 (by omega)
      have e13 : u 13 = _ := hp 13 (by omega)
      have hS : IsScene W' (u 15) s (mkAt s c e s.size) := hp 15 (by omega)
      clear hp
      rw [hT u, e14, e13]
      generalize u 15 = xv at *
      go_wp2_with (refine wpl_storeSc rfl _ _ rfl rfl z s ⟨#[]⟩ c e 0 0 false false rfl rfl hz ?_; intro w7 hz7 hk7)
      try simp only [Act.put, List.setIfInBounds_toArray, List.set_cons_zero, List.set_cons_succ]
      go_meet
      case rel => exact ⟨z, rfl, hS.keepz hz hk7, hz7, hx.keep1 hk7 hze⟩
  obtain ⟨gr, rfl, hS, hB, hx45⟩ := hcut
  obtain ⟨w5, hw5⟩ : ∃ w, w = wc := ⟨_, rfl⟩
  subst hw5
  obtain ⟨gx, hxv⟩ : ∃ gx, u11 = .pointer (some ⟨gx, 0, none⟩) := by obtain ⟨g, _, h, _⟩ := hS; exact ⟨g, h⟩
  subst hxv
  have HX5 := Lib.hid (HXA.out _ (HX4.out.trans hx45))
  have HA5 := Lib.hid (fun W (hW : Ext w5 W) => HA.out W ((HX4.out.trans hx45).trans hW))
  have hB0 : w5.cell? ⟨gr, 0, none⟩ = some (.string s) := hB.cell 0
  have hB1 : w5.cell? ⟨gr, 1, none⟩ = some (.int .i64 c) := hB.cell 1
  have hB2 : w5.cell? ⟨gr, 2, none⟩ = some (.int .i64 e) := hB.cell 2
  have hB3 : w5.cell? ⟨gr, 3, none⟩ = some (.bool false) := hB.cell 3
  have HB := Lib.hid (fun W (hW : Ext w5 W) => (⟨hW.cell hB0, hW.cell hB1, hW.cell hB2, hW.cell hB3⟩ : W.cell? ⟨gr, 0, none⟩ = some (.string s) ∧ W.cell? ⟨gr, 1, none⟩ = some (.int .i64 c) ∧ W.cell? ⟨gr, 2, none⟩ = some (.int .i64 e) ∧ W.cell? ⟨gr, 3, none⟩ = some (.bool false)))
  have HCC : Hid (∀ W, Ext w5 W → Calls Tryz.prog 13 #[nodeV h svn] W fun r w' => ∃ sv, r = .returned (nodeV h sv) ∧ NdNew W.heap.size w' t sv ∧ Ext W w') := Lib.hid (fun W hW => by
    have := HCP2.out W (HX5.out.trans hW)
    refine this.mono fun r w' hr => ?_
    obtain ⟨sv, h1, h2, h3⟩ := hr
    exact ⟨sv, by rw [h1, HHH.out], h2, h3⟩)
  have HS5 := Lib.hid hS
  clear hx45 hB hB0 hB1 hB2 hB3 hS
  go_upto_region 7 with (first
    | (refine wpl_loadNd rfl _ rfl z 0 h _ rfl (HA5.out _ (Ext.refl _)) ?_)
    | (go_at_call 13; refine (HCC.out _ (Ext.refl _)).mono ?_; rintro e w6 ⟨sv6, rfl, hn6, hx6⟩)
    | (refine wpl_allocNd rfl rfl ?_; intro y w7 hy hx7 ey sy)
    | (refine wpl_storeNd rfl _ _ rfl rfl y h _ sv6 _ rfl rfl hn6.ok.sl hy ?_; intro w8 hy8 hk8))
  try simp only [Act.put, List.setIfInBounds_toArray, List.set_cons_zero, List.set_cons_succ]
  have hx58 : Ext w5 w8 := (hx6.trans hx7).keep1 hk8 (by have := hx6.size; omega)
  have hn8 : NdNew w5.heap.size w8 t sv6 := hn6.keepHi ((Keeps.of_ext hx7).trans hk8 (fun _ _ e => e)) (by omega)
  have HM8 := Lib.hid (fun W (hW : Ext w8 W) => ((hy8.ext hW).nd : NdAt W y 0 h sv6))
  have HX8 := Lib.hid (HX5.out.trans hx58)
  have HA8 := Lib.hid (fun W (hW : Ext w8 W) => HA5.out W (hx58.trans hW))
  have HB8 := Lib.hid (fun W (hW : Ext w8 W) => HB.out W (hx58.trans hW))
  have HFi := Lib.hid (fun W (hW : Ext w8 W) => HF2.out W _ sv6 (HX8.out.trans hW) (NdCap.ext hW hn8.cap) (HS5.out.ext (hx58.trans hW)))
  have HSN : Hid (∀ W, Ext w8 W → Calls Tryz.prog 15 #[nodeV h sv6, nodeV h svn] W fun r w' => r = .returned (.bool true) ∧ Ext W w') := Lib.hid (fun W hW => by
    have := sameNodes_any t sv6 t svn W (hn8.ok.ext hW) (NdOk.ext (HX8.out.trans hW) _ _ HNN.out.ok) (small_left t 2500 (by omega) HFW.out)
    rw [sameN_refl, ← HHH.out] at this
    exact this)
  have HAk := Lib.hid (fun W (hW : Ext w8 W) => HA2.out W (HX8.out.trans hW))
  clear HA HXA HX4 HKW HK4 HN hx6 hx7 hn6 ey sy hy hk8 hy8 hx58 hn8 HA2 HF2 HX2 HB HA5 HCC HCP2 HS5 HX5
  have HK0 := Lib.hid (ask_ok (t := t) (n := s.size) (G := G) (ats := [fr, tt]))
  have HKL := Lib.hid (ask_le (t := t) (n := s.size) (G := G) (ats := [fr, tt]))
  obtain ⟨k, hk⟩ : ∃ k, k = askN t s.size G [fr, tt] := ⟨_, rfl⟩
  unfold srV at HAk
  rw [← hk] at HFi HAk HK0 HKL
  clear hk
  by_cases h0 : k = 0
  case neg =>
    have HFa : Hid (∀ W, Ext w8 W → Calls Tryz.prog 14 #[nodeV h sv6, .pointer (some ⟨gx, 0, none⟩), .int .i64 fr, .int .i64 tt, .int .i64 G] W fun r w' => r = .returned (.tuple #[.slice none 0 0, .bool false, .iface 142 (.pointer (some (A (k - 1))))]) ∧ Ext W w') := Lib.hid (fun W hW => (HFi.out W hW).mono fun r w' hr => by
      rcases hr with ⟨_, h2, h3⟩ | ⟨h1, _⟩ | ⟨h1, _⟩
      · exact ⟨h2, h3⟩
      · exact absurd h1 h0
      · exact absurd h1 h0)
    have HNu : Hid (∀ W, Ext w8 W → Calls Tryz.prog 10 #[.iface 142 (.pointer (some (A (k - 1))))] W fun r w' => r = .returned (.int .i64 k) ∧ Ext W w') := Lib.hid (fun W hW => by
      have := num_err A (k - 1) W (by have := HKL.out; omega) (HEE.out.ext (HX8.out.trans hW))
      rw [show k - 1 + 1 = k by omega] at this
      exact this)
    have e1 : ((k : Int) != (k : Int)) = false := bne_self_eq_false _
    have e2 : ((k : Int) != 0) = true := by rw [bne_iff_ne]; omega
    generalize A (k - 1) = aa at *
    clear HFi HK0 HKL h0
    go_wp2_with (first
      | (have hgate := hX12; clear hgate; refine wpl_loadNdG _ rfl rfl y 0 h _ rfl (HM8.out _ hX12) ?_)
      | (have hgate := hX12; clear hgate; refine wpl_loadNdG _ rfl rfl z 0 h _ rfl (HA8.out _ hX12) ?_)
      | (have hgate := hX10; clear hgate; refine wpl_loadNd rfl _ rfl z 0 h _ rfl (HA8.out _ hX10) ?_)
      | (have hgate := hx9; clear hgate; refine wpl_loadNd rfl _ rfl y 0 h _ rfl (HM8.out _ hx9) ?_)
      | (refine wpl_loadNd rfl _ rfl y 0 h _ rfl (HM8.out _ (Ext.refl _)) ?_)
      | (go_at_call 14; refine (HFa.out _ hx9).mono ?_; rintro e w10 ⟨rfl, hx10⟩; have hX10 := hx9.trans hx10; obtain ⟨y0, y1, y2, y3⟩ := HB8.out _ hX10)
      | (go_at_call 14; refine (HFa.out _ (Ext.refl _)).mono ?_; rintro e w9 ⟨rfl, hx9⟩)
      | (go_at_call 9; refine (HAk.out _ hX10).mono ?_; rintro e w11 ⟨rfl, hx11⟩; have hX11 := hX10.trans hx11)
      | (go_at_call 10; refine (HNu.out _ hX11).mono ?_; rintro e w12 ⟨rfl, hx12⟩; have hX12 := hX11.trans hx12)
      | (go_at_call 15; refine (HSN.out _ hX12).mono ?_; rintro e w13 ⟨rfl, hx13⟩))
    go_ret
    exact ⟨rfl, HX8.out.trans (hX12.trans hx13)⟩
  subst h0
  obtain ⟨hc, ho, hG0, hG9⟩ := HK0.out rfl
  obtain ⟨gn, rfl⟩ := Int.eq_ofNat_of_zero_le hG0
  have hoo := out_two ho
  obtain ⟨i0, rfl⟩ := Int.eq_ofNat_of_zero_le hoo.1.1
  obtain ⟨j0, rfl⟩ := Int.eq_ofNat_of_zero_le hoo.2.1
  have hs150 : s.size ≤ 150 := H150.out hc
  have hf := (chk_ok hc).1
  have HRF := Lib.hid (fun W (hW : Ext w8 W) => rspans_any (s := s) (c := c) (e := e) t svn i0 j0 gn W (by omega) (by omega) (by omega) (by omega) hf (small_left t 2500 (by omega) HFW.out) (by have := numsN_few t 2500 HFW.out; have := HFW.out; omega) (NdCap.ext (HX8.out.trans hW) HNN.out))
  rw [HHH.out.symm, ← lfM_lfR] at HRF
  simp only [Int.toNat_natCast] at HFi
  unfold srV at HRF
  generalize mkAt s c e s.size = m at *
  have HTL := Lib.hid (fun l (h : spnL (lfM s m) t i0 j0 gn = some l) => (spn_len h : l.length = gn + 1))
  obtain ⟨o, ho2⟩ : ∃ o, o = spnL (lfM s m) t i0 j0 gn := ⟨_, rfl⟩
  rw [← ho2] at HFi HRF HTL
  have HG9 := Lib.hid hG9
  clear ho2 hf hs150 hoo ho hc hG0 HKL HK0 H150 HFW HNN HHH HEE hG9
  cases o with
  | none =>
    have HFa : Hid (∀ W, Ext w8 W → Calls Tryz.prog 14 #[nodeV h sv6, .pointer (some ⟨gx, 0, none⟩), .int .i64 i0, .int .i64 j0, .int .i64 gn] W fun r w' => r = .returned (.tuple #[.slice none 0 0, .bool false, .nilIface]) ∧ Ext W w') := Lib.hid (fun W hW => (HFi.out W hW).mono fun r w' hr => by
      rcases hr with ⟨h1, _⟩ | ⟨_, _, h2, h3⟩ | ⟨_, _, _, _, h1, _⟩
      · exact absurd rfl h1
      · exact ⟨h2, h3⟩
      · cases h1)
    have HFb : Hid (∀ W, Ext w8 W → Calls Tryz.prog 16 #[nodeV h svn, .agg #[.string s, .int .i64 c, .int .i64 e, .bool false], .int .i64 i0, .int .i64 j0, .int .i64 gn] W fun r w' => r = .returned (.tuple #[.slice none 0 0, .bool false]) ∧ Ext W w') := Lib.hid (fun W hW => (HRF.out W hW).mono fun r w' hr => by
      rcases hr with ⟨_, h2, h3⟩ | ⟨_, _, _, h1, _⟩
      · exact ⟨h2, h3⟩
      · cases h1)
    have HSm := Lib.hid (fun W => (sameSpans_any (.slice none 0 0) (.slice none 0 0) [] [] W (by decide) (RdSn.nil W none 0) (RdSn.nil W none 0) : Calls Tryz.prog 12 #[.slice none 0 0, .slice none 0 0] W fun r w' => r = .returned (.bool true) ∧ Ext W w'))
    clear HFi HRF HTL HG9
    go_upto_region 18 with (first
      | (have hgate := hX12; clear hgate; refine wpl_loadNdG _ rfl rfl y 0 h _ rfl (HM8.out _ hX12) ?_)
      | (have hgate := hX12; clear hgate; refine wpl_loadNdG _ rfl rfl z 0 h _ rfl (HA8.out _ hX12) ?_)
      | (have hgate := hX13; clear hgate; refine wpl_loadNd rfl _ rfl z 0 h _ rfl (HA8.out _ hX13) ?_)
      | (have hgate := hX10; clear hgate; refine wpl_loadNd rfl _ rfl z 0 h _ rfl (HA8.out _ hX10) ?_)
      | (have hgate := hx9; clear hgate; refine wpl_loadNd rfl _ rfl y 0 h _ rfl (HM8.out _ hx9) ?_)
      | (refine wpl_loadNd rfl _ rfl y 0 h _ rfl (HM8.out _ (Ext.refl _)) ?_)
      | (go_at_call 14; refine (HFa.out _ hx9).mono ?_; rintro e w10 ⟨rfl, hx10⟩; have hX10 := hx9.trans hx10; obtain ⟨y0, y1, y2, y3⟩ := HB8.out _ hX10)
      | (go_at_call 14; refine (HFa.out _ (Ext.refl _)).mono ?_; rintro e w9 ⟨rfl, hx9⟩)
      | (go_at_call 9; refine (HAk.out _ hX10).mono ?_; rintro e w11 ⟨rfl, hx11⟩; have hX11 := hX10.trans hx11)
      | (go_at_call 10; refine (num_nil _).mono ?_; rintro e w12 ⟨rfl, rfl⟩; have hX12 := hX11)
      | (go_at_call 15; refine (HSN.out _ hX12).mono ?_; rintro e w13 ⟨rfl, hx13⟩; have hX13 := hX12.trans hx13; obtain ⟨y0, y1, y2, y3⟩ := HB8.out _ hX13)
      | (go_at_call 16; refine (HFb.out _ hX13).mono ?_; rintro e w14 ⟨rfl, hx14⟩; have hX14 := hX13.trans hx14)
      | (go_at_call 12; refine (HSm.out _).mono ?_; rintro e w15 ⟨rfl, hx15⟩; have hX15 := hX14.trans hx15))
    have HXF := Lib.hid (HX8.out.trans hX15)
    clear hx9 hx10 hX10 y0 y1 y2 y3 hx11 hX11 hX12 hx13 hX13 hx14 hX14 hx15 hX15 HFa HFb HSN HAk HM8 HA8 HB8
    go_loopw [110] (fun iv wr => iv = .int .i64 0 ∧ wr = w15) (fun _ _ => 0)
    case atStart => exact ⟨rfl, rfl⟩
    case round =>
      obtain ⟨rfl, rfl⟩ := hrel
      go_wp2_with (go_at_call 12; refine (HSm.out _).mono ?_; rintro e w16 ⟨rfl, hx16⟩)
      go_ret
      exact ⟨rfl, HXF.out.trans hx16⟩
  | some l =>
    have hl := HTL.out l rfl
    have HFa : Hid (∀ W, Ext w8 W → Calls Tryz.prog 14 #[nodeV h sv6, .pointer (some ⟨gx, 0, none⟩), .int .i64 i0, .int .i64 j0, .int .i64 gn] W fun r w' => ∃ g c, r = .returned (.tuple #[.slice (some ⟨g, 0, none⟩) (gn + 1) c, .bool true, .nilIface]) ∧ OwnSp w' W.heap.size (.slice (some ⟨g, 0, none⟩) (gn + 1) c) l ∧ Ext W w') := Lib.hid (fun W hW => (HFi.out W hW).mono fun r w' hr => by
      rcases hr with ⟨h1, _⟩ | ⟨_, h1, _⟩ | ⟨_, l', g, c, h1, h2, h3, h4⟩
      · exact absurd rfl h1
      · cases h1
      · simp only [Option.some.injEq] at h1
        subst h1
        rw [hl] at h2 h3
        exact ⟨g, c, h2, h3, h4⟩)
    have HFb : Hid (∀ W, Ext w8 W → Calls Tryz.prog 16 #[nodeV h svn, .agg #[.string s, .int .i64 c, .int .i64 e, .bool false], .int .i64 i0, .int .i64 j0, .int .i64 gn] W fun r w' => ∃ g c, r = .returned (.tuple #[.slice (some ⟨g, 0, none⟩) (gn + 1) c, .bool true]) ∧ OwnSp w' W.heap.size (.slice (some ⟨g, 0, none⟩) (gn + 1) c) l ∧ Ext W w') := Lib.hid (fun W hW => (HRF.out W hW).mono fun r w' hr => by
      rcases hr with ⟨h1, _⟩ | ⟨l', g, c, h1, h2, h3, h4⟩
      · cases h1
      · simp only [Option.some.injEq] at h1
        subst h1
        rw [hl] at h2 h3
        exact ⟨g, c, h2, h3, h4⟩)
    have HSm := Lib.hid (fun W va vb (h1 : RdSn W va l) (h2 : RdSn W vb l) => (by
      have := sameSpans_any va vb l l W (by have := HG9.out; omega) h1 h2
      rw [decide_eq_true rfl] at this
      exact this : Calls Tryz.prog 12 #[va, vb] W fun r w' => r = .returned (.bool true) ∧ Ext W w'))
    have HLL := Lib.hid hl
    clear HFi HRF HTL hl
    go_upto_region 18 with (first
      | (have hgate := hX12; clear hgate; refine wpl_loadNdG _ rfl rfl y 0 h _ rfl (HM8.out _ hX12) ?_)
      | (have hgate := hX12; clear hgate; refine wpl_loadNdG _ rfl rfl z 0 h _ rfl (HA8.out _ hX12) ?_)
      | (have hgate := hX13; clear hgate; refine wpl_loadNd rfl _ rfl z 0 h _ rfl (HA8.out _ hX13) ?_)
      | (have hgate := hX10; clear hgate; refine wpl_loadNd rfl _ rfl z 0 h _ rfl (HA8.out _ hX10) ?_)
      | (have hgate := hx9; clear hgate; refine wpl_loadNd rfl _ rfl y 0 h _ rfl (HM8.out _ hx9) ?_)
      | (refine wpl_loadNd rfl _ rfl y 0 h _ rfl (HM8.out _ (Ext.refl _)) ?_)
      | (go_at_call 14; refine (HFa.out _ hx9).mono ?_; rintro e w10 ⟨g10, c10, rfl, hO10, hx10⟩; have hX10 := hx9.trans hx10; obtain ⟨y0, y1, y2, y3⟩ := HB8.out _ hX10)
      | (go_at_call 14; refine (HFa.out _ (Ext.refl _)).mono ?_; rintro e w9 ⟨g9, c9, rfl, hO9, hx9⟩)
      | (go_at_call 9; refine (HAk.out _ hX10).mono ?_; rintro e w11 ⟨rfl, hx11⟩; have hX11 := hX10.trans hx11)
      | (go_at_call 10; refine (num_nil _).mono ?_; rintro e w12 ⟨rfl, rfl⟩; have hX12 := hX11)
      | (go_at_call 15; refine (HSN.out _ hX12).mono ?_; rintro e w13 ⟨rfl, hx13⟩; have hX13 := hX12.trans hx13; obtain ⟨y0, y1, y2, y3⟩ := HB8.out _ hX13)
      | (go_at_call 16; refine (HFb.out _ hX13).mono ?_; rintro e w14 ⟨g14, c14, rfl, hO14, hx14⟩; have hX14 := hX13.trans hx14)
      | (go_at_call 12; refine (HSm.out _ _ _ (RdSn.of_own (OwnR.ext hO9 (((hx10.trans hx11).trans hx13).trans hx14))) (RdSn.of_own hO14)).mono ?_; rintro e w15 ⟨rfl, hx15⟩; have hX15 := hX14.trans hx15))
    have hO9' : OwnSp w15 w8.heap.size _ l := OwnR.ext hO9 ((((hx10.trans hx11).trans hx13).trans hx14).trans hx15)
    have hO10' : OwnSp w15 w9.heap.size _ l := OwnR.ext hO10 (((hx11.trans hx13).trans hx14).trans hx15)
    have hO14' : OwnSp w15 w13.heap.size _ l := OwnR.ext hO14 hx15
    have hg9 : w8.heap.size ≤ g9 ∧ g9 < w9.heap.size := OwnR.own hO9 g9 rfl
    have hg10 : w9.heap.size ≤ g10 := (OwnR.own hO10' g10 rfl).1
    have hg14 : w13.heap.size ≤ g14 := (OwnR.own hO14' g14 rfl).1
    have hne10 : g10 ≠ g9 := by omega
    have hne14 : g14 ≠ g9 := by have := hx10.size; have := hx11.size; have := hx13.size; omega
    have HXF := Lib.hid (HX8.out.trans hX15)
    have HLO := Lib.hid hg9.1
    have H10 := Lib.hid (fun W (hk : Keeps (· = g9) w15 W) => RdSn.of_own (OwnR.keeps hO10' hk (fun i hi => by simp only [Value.ownBlock, Option.some.injEq] at hi; omega)))
    have H14 := Lib.hid (fun W (hk : Keeps (· = g9) w15 W) => RdSn.of_own (OwnR.keeps hO14' hk (fun i hi => by simp only [Value.ownBlock, Option.some.injEq] at hi; omega)))
    have HO9 := Lib.hid hO9'
    have HSZ := Lib.hid hX15.size
    clear hx9 hx10 hX10 y0 y1 y2 y3 hx11 hX11 hX12 hx13 hX13 hx14 hX14 hx15 hX15 HFa HFb HSN HAk HM8 HA8 HB8 hO9 hO10 hO14 hO9' hO10' hO14' hg9 hg10 hg14 hne10 hne14
    have hk0 : Keeps (· = g9) w15 w15 := Keeps.refl _ _
    go_loopw [110] (fun iv wr => ∃ (k : Nat) (lk : List (Int × Int)), k ≤ gn + 1 ∧ iv = .int .i64 k ∧ lk.length = gn + 1 ∧ OwnSp wr w8.heap.size (.slice (some ⟨g9, 0, none⟩) (gn + 1) c9) lk ∧ Keeps (· = g9) w15 wr) (fun iv _ => gn + 1 - (intOf iv).toNat)
    case atStart => exact ⟨0, l, Nat.zero_le _, rfl, HLL.out, HO9.out, hk0⟩
    case round =>
      clear hk0
      obtain ⟨k, lk, hk, rfl, hlk, hO, hK⟩ := hrel
      by_cases hlt : k < gn + 1
      · have HLK := Lib.hid (show k < lk.length by omega)
        have HLS := Lib.hid (show (lk.set k (3, 1)).length = gn + 1 by rw [List.length_set]; exact hlk)
        have d1 : (k : Int) < ((gn + 1 : Nat) : Int) := by omega
        have d2 : (k : Int) < (gn : Int) + 1 := by omega
        have HKK := Lib.hid hK
        have hq9 := HG9.out
        clear hlk hK
        go_wp2_with (refine wpl_setSp rfl _ _ rfl rfl w8.heap.size g9 _ c9 lk k (3, 1) rfl rfl hO HLK.out ?_; intro w6 hO6 hk6)
        go_roundw
        case rel => exact ⟨k + 1, lk.set k (3, 1), by omega, by go_num, HLS.out, hO6, HKK.out.trans hk6 (fun _ _ e => e)⟩
        case measure => simp [intOf]; omega
      · have d1 : ¬ (k : Int) < ((gn + 1 : Nat) : Int) := by omega
        have d2 : ¬ (k : Int) < (gn : Int) + 1 := by omega
        have h10 := Lib.hid (H10.out wr hK)
        have h14 := Lib.hid (H14.out wr hK)
        have HXW := Lib.hid (HXF.out.keep1 hK (by have := HLO.out; have := HX8.out.size; omega))
        clear hK hO hlk
        go_wp2_with (go_at_call 12; refine (HSm.out _ _ _ h10.out h14.out).mono ?_; rintro e w16 ⟨rfl, hx16⟩)
        go_ret
        exact ⟨rfl, HXW.out.trans hx16⟩

end Go.Proofs.YtgfknlkpdiejgaaGreatDoor
