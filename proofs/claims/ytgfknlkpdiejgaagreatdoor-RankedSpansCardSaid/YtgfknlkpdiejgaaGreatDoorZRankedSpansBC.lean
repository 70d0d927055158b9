/- trawlref11.leaf as a contract. Condition: the node is a leaf of a right tree, the place is one of the scene. trawlref11.None, Only, some, Over (of a leaf), Takes (of a leaf) as contracts. Condition: the subject is short, the places are places of it. trawlref11.Takes of a leaf as a contract. Condition: the subject is short, the places are places of it. trawlref12.is as a contract: whether a parse is one of a right tree. Condition: both lie in memory; the subject has at most a million bytes. -/
import Derived.Test.YtgfknlkpdiejgaaGreatDoorZRankedSpansAJ
import Derived.Test.YtgfknlkpdiejgaaGreatDoorZRankedSpansAF
import Derived.Test.YtgfknlkpdiejgaaGreatDoorZRankedSpansAW
import Derived.Test.YtgfknlkpdiejgaaGreatDoorZRankedSpansAB
import Derived.Deep.RegionHeld3
import Derived.Test.YtgfknlkpdiejgaaGreatDoorZRankedSpansBB
namespace Go.Proofs.YtgfknlkpdiejgaaGreatDoor
open Go Go.RowKit

/-- Where a leaf leads from a place; -1: nowhere. -/
def leafK (s : ByteArray) (c e : Int) (h : Hd) (i : Int) : Int :=
  if h.kind = 1 then i
  else if h.kind = 2 then (if i < s.size ∧ h.set (s.data.toList.getD i.toNat 0).toNat = true then i + 1 else -1)
  else if h.kind = 3 then (if srB s c e false i = true then i else -1)
  else (if srE s c e false i = true then i else -1)
theorem leafB_K (s : ByteArray) (c e : Int) (h : Hd) (a b : Int) (hk : 1 ≤ h.kind ∧ h.kind ≤ 4) (ha : 0 ≤ a) (hab : a ≤ b) : leafB s c e h a b = decide (leafK s c e h a = b) := by
  have hk' : h.kind = 1 ∨ h.kind = 2 ∨ h.kind = 3 ∨ h.kind = 4 := by omega
  unfold leafB leafK
  rcases hk' with h1 | h1 | h1 | h1
  · rw [h1]; simp
  · rw [h1]
    simp only [show ¬ (2 : Int) = 3 by decide, show ¬ (2 : Int) = 4 by decide, show ¬ (2 : Int) = 1 by decide, if_true, if_false]
    by_cases h3 : a < s.size
    · cases hs : h.set (s.data.toList.getD a.toNat 0).toNat
      · rw [if_neg (by simp), Bool.and_false]
        symm
        rw [decide_eq_false_iff_not]
        omega
      · rw [if_pos ⟨h3, rfl⟩, Bool.and_true, decide_eq_true h3, Bool.true_and, Bool.eq_iff_iff, decide_eq_true_eq, decide_eq_true_eq]
        exact eq_comm
    · rw [if_neg (fun h => h3 h.1), decide_eq_false h3]
      symm
      simp only [Bool.false_and]
      rw [decide_eq_false_iff_not]
      omega
  · rw [h1]
    simp only [show ¬ (3 : Int) = 2 by decide, show ¬ (3 : Int) = 1 by decide, if_true, if_false]
    cases srB s c e false a
    · rw [if_neg (by decide), Bool.and_false]
      symm
      rw [decide_eq_false_iff_not]
      omega
    · rw [if_pos rfl, Bool.and_true]
  · rw [h1]
    simp only [show ¬ (4 : Int) = 3 by decide, show ¬ (4 : Int) = 2 by decide, show ¬ (4 : Int) = 1 by decide, if_true, if_false]
    cases srE s c e false a
    · rw [if_neg (by decide), Bool.and_false]
      symm
      rw [decide_eq_false_iff_not]
      omega
    · rw [if_pos rfl, Bool.and_true]
theorem leafK_rng (s : ByteArray) (c e : Int) (h : Hd) (a : Int) (ha : 0 ≤ a) (hs : a ≤ s.size) : -1 ≤ leafK s c e h a ∧ leafK s c e h a ≤ s.size := by
  unfold leafK
  split
  · omega
  · split
    · split
      · rename_i h; omega
      · omega
    · split
      · split <;> omega
      · split <;> omega

set_option maxRecDepth 100000 in
set_option maxHeartbeats 4000000 in
theorem leaf_any (s : ByteArray) (c e : Int) (h : Hd) (sv : Value) (i : Int) (w : World) (hk : 1 ≤ h.kind ∧ h.kind ≤ 4) (hi : 0 ≤ i) (his : i ≤ s.size) (hs : s.size ≤ 1000000) :
    Calls Tryz.prog 79 #[nodeV h sv, srV s c e false, .int .i64 i] w fun r w' => r = .returned (.int .i64 (leafK s c e h i)) ∧ Ext w w' := by
  have HB := Lib.hid (fun W => rBegin_any s c e false i W hs)
  have HE := Lib.hid (fun W => rEnd_any s c e false i W hs)
  have HY := Lib.hid (fun W => rByte_any s c e false i W hs)
  have HR := Lib.hid (show leafK s c e h i = if h.kind = 1 then i
    else if h.kind = 2 then (if i < s.size ∧ h.set (s.data.toList.getD i.toNat 0).toNat = true then i + 1 else -1)
    else if h.kind = 3 then (if srB s c e false i = true then i else -1)
    else (if srE s c e false i = true then i else -1) from rfl)
  generalize leafK s c e h i = res at *
  unfold srV at *
  go_enter Tryz.func79, Tryz.ntmps79
  go_upto_region 1 with (refine wpl_boxNd rfl _ rfl h _ rfl ?_; intro z w1 hb hx1 ex sx)
  have hx2 := hx1.alloc (.cells #[.string s, .int .i64 c, .int .i64 e, .bool false] 35)
  have k4 := box4 (Ext.refl (w1.alloc (.cells #[.string s, .int .i64 c, .int .i64 e, .bool false] 35)))
  replace hb := hb.ext ((Ext.refl w1).alloc (.cells #[.string s, .int .i64 c, .int .i64 e, .bool false] 35))
  generalize w1.alloc (.cells #[.string s, .int .i64 c, .int .i64 e, .bool false] 35) = w2 at *
  generalize w1.heap.size = y at *
  obtain ⟨k0, k1, k2, k3⟩ := k4
  have n0 : w2.cell? ⟨z, 0, none⟩ = some (.int .i64 h.kind) := hb.cell 0
  have n1 : w2.cell? ⟨z, 1, none⟩ = some (u64v (wd h.set 0)) := hb.cell 1
  have n2 : w2.cell? ⟨z, 2, none⟩ = some (u64v (wd h.set 1)) := hb.cell 2
  have n3 : w2.cell? ⟨z, 3, none⟩ = some (u64v (wd h.set 2)) := hb.cell 3
  have n4 : w2.cell? ⟨z, 4, none⟩ = some (u64v (wd h.set 3)) := hb.cell 4
  have hk' : h.kind = 1 ∨ h.kind = 2 ∨ h.kind = 3 ∨ h.kind = 4 := by omega
  clear ex sx hx1
  rcases hk' with h1 | h1 | h1 | h1
  · have FIN := Lib.hid (show res = i by rw [HR.out, if_pos h1])
    rw [h1] at n0
    clear HR HB HE HY hk h1 hb
    go_wp2
    go_ret
    exact ⟨by rw [FIN.out]; rfl, hx2⟩
  · have HR2 := Lib.hid (show res = (if i < s.size ∧ h.set (s.data.toList.getD i.toNat 0).toNat = true then i + 1 else -1) by rw [HR.out, if_neg (by omega), if_pos h1])
    rw [h1] at n0
    clear HR HB HE hk h1
    generalize h.set = st at *
    have hw : IntKind.i64.wrap (i + 1) = i + 1 := by rw [IntKind.wrap_i64]; omega
    by_cases t1 : i < s.size
    · have e1 : srByte s false i = ((s.data.toList.getD i.toNat 0).toNat : Int) := by unfold srByte; rw [if_pos ⟨hi, t1⟩]; rfl
      have hbl := (s.data.toList.getD i.toNat 0).toNat_lt
      rw [e1] at HY
      generalize (s.data.toList.getD i.toNat 0).toNat = byt at *
      have HH := Lib.hid (fun W => rHas_any st byt W hbl)
      have hwb : IntKind.u8.wrap (byt : Int) = (byt : Int) := by rw [IntKind.wrap_u8]; omega
      have hge : (0 : Int) ≤ (byt : Int) := by omega
      unfold setV at HH
      cases hst : st byt
      · have FIN := Lib.hid (show res = -1 by rw [HR2.out, if_neg (fun h => by rw [hst] at h; exact absurd h.2 (by decide))])
        rw [hst] at HH
        clear HR2 e1 hb hst
        go_wp2_with (first
          | (go_at_call 87; refine (HY.out _).mono ?_; rintro e w3 ⟨rfl, hx3⟩; replace n1 := hx3.cell n1; replace n2 := hx3.cell n2; replace n3 := hx3.cell n3; replace n4 := hx3.cell n4)
          | (go_at_call 88; refine (HH.out _).mono ?_; rintro e w4 ⟨rfl, hx4⟩))
        go_ret
        exact ⟨by rw [FIN.out]; rfl, (hx2.trans hx3).trans hx4⟩
      · have FIN := Lib.hid (show res = i + 1 by rw [HR2.out, if_pos ⟨t1, hst⟩])
        rw [hst] at HH
        clear HR2 e1 hb hst
        go_wp2_with (first
          | (go_at_call 87; refine (HY.out _).mono ?_; rintro e w3 ⟨rfl, hx3⟩; replace n1 := hx3.cell n1; replace n2 := hx3.cell n2; replace n3 := hx3.cell n3; replace n4 := hx3.cell n4)
          | (go_at_call 88; refine (HH.out _).mono ?_; rintro e w4 ⟨rfl, hx4⟩))
        go_ret
        exact ⟨by rw [FIN.out]; rfl, (hx2.trans hx3).trans hx4⟩
    · have e1 : srByte s false i = -1 := by unfold srByte; rw [if_neg (fun h => t1 h.2)]
      rw [e1] at HY
      have FIN := Lib.hid (show res = -1 by rw [HR2.out, if_neg (fun h => t1 h.1)])
      clear HR2 e1 hb
      go_wp2_with (go_at_call 87; refine (HY.out _).mono ?_; rintro e w3 ⟨rfl, hx3⟩)
      go_ret
      exact ⟨by rw [FIN.out]; rfl, hx2.trans hx3⟩
  · have HR2 := Lib.hid (show res = (if srB s c e false i = true then i else -1) by rw [HR.out, if_neg (by omega), if_neg (by omega), if_pos h1])
    rw [h1] at n0
    clear HR HE HY hk h1 hb
    generalize srB s c e false i = bb at *
    cases bb
    · have FIN := Lib.hid (show res = -1 from HR2.out)
      clear HR2
      go_wp2_with (go_at_call 89; refine (HB.out _).mono ?_; rintro e w3 ⟨rfl, hx3⟩)
      go_ret
      exact ⟨by rw [FIN.out]; rfl, hx2.trans hx3⟩
    · have FIN := Lib.hid (show res = i from HR2.out)
      clear HR2
      go_wp2_with (go_at_call 89; refine (HB.out _).mono ?_; rintro e w3 ⟨rfl, hx3⟩)
      go_ret
      exact ⟨by rw [FIN.out]; rfl, hx2.trans hx3⟩
  · have HR2 := Lib.hid (show res = (if srE s c e false i = true then i else -1) by rw [HR.out, if_neg (by omega), if_neg (by omega), if_neg (by omega)])
    rw [h1] at n0
    clear HR HB HY hk h1 hb
    generalize srE s c e false i = bb at *
    cases bb
    · have FIN := Lib.hid (show res = -1 from HR2.out)
      clear HR2
      go_wp2_with (go_at_call 90; refine (HE.out _).mono ?_; rintro e w3 ⟨rfl, hx3⟩)
      go_ret
      exact ⟨by rw [FIN.out]; rfl, hx2.trans hx3⟩
    · have FIN := Lib.hid (show res = i from HR2.out)
      clear HR2
      go_wp2_with (go_at_call 90; refine (HE.out _).mono ?_; rintro e w3 ⟨rfl, hx3⟩)
      go_ret
      exact ⟨by rw [FIN.out]; rfl, hx2.trans hx3⟩

end Go.Proofs.YtgfknlkpdiejgaaGreatDoor

namespace Go.Proofs.YtgfknlkpdiejgaaGreatDoor
open Go Go.RowKit

def bls (l : List Bool) : Array Value := (l.map Value.bool).toArray
@[simp] theorem bls_size (l : List Bool) : (bls l).size = l.length := by simp [bls]
theorem bls_get (l : List Bool) (j : Nat) (h : j < l.length) : (bls l)[j]? = some (.bool l[j]) := by simp [bls, h]
theorem bls_set (l : List Bool) (j : Nat) (x : Bool) : (bls l).setIfInBounds j (.bool x) = bls (l.set j x) := by
  apply Array.ext'
  simp [bls, List.map_set]
theorem infoT_bl : (Tryz.prog.info? 4).map (fun i => (i.zero, i.size, i.bytes)) = some (some (.bool false), 1, 1) := by kernel_rfl
theorem madeT_bl (n : Nat) : madeCells #[Value.bool false] n = bls (List.replicate n false) := by
  apply Array.ext
  · simp [madeCells]
  · intro i h1 h2
    simp [madeCells, bls, Nat.mod_one]
theorem made_places (n : Nat) (hn : n ≤ 100000000) (W : World) : (Instr.makeSlice 112 (.int .i64 (n : Int)) (.int .i64 (n : Int))).run Tryz.prog W =
    .ok (.slice (some ⟨W.heap.size, 0, none⟩) n n) (W.alloc (.cells (bls (List.replicate n false)) 4)) := by
  obtain ⟨i0, hi0, hz0, hz1, hz2⟩ := info_parts infoT_bl
  have := run_make (P := Tryz.prog) W 112 4 i0 (.bool false) Tryz.underlying112 hi0 hz0 .i64 .i64 (n : Int) (n : Int) (by omega) (by omega) (by rw [hz2]; omega) (by omega)
  rw [this]
  rw [Int.toNat_natCast, hz1, Nat.mul_one]
  simp [Value.cells, madeT_bl]
abbrev noneL (s : ByteArray) : List Bool := List.replicate (s.size + 1) false
/-- What a call that makes places answers. -/
def RetPl (w : World) (l : List Bool) (r : Ending) (w' : World) : Prop := ∃ g, r = .returned (.slice (some ⟨g, 0, none⟩) l.length l.length) ∧ Blk w' g 4 (bls l) ∧ w.heap.size ≤ g ∧ Ext w w'

set_option maxRecDepth 100000 in
set_option maxHeartbeats 1000000 in
theorem noneT_any (s : ByteArray) (c e : Int) (w : World) (hs : s.size ≤ 1000000) : Calls Tryz.prog 75 #[srV s c e false] w (RetPl w (noneL s)) := by
  have hm := made_places (s.size + 1) (by omega)
  rw [show ((s.size + 1 : Nat) : Int) = (s.size : Int) + 1 by omega] at hm
  have q1 : IntKind.i64.wrap ((s.size : Int) + 1) = (s.size : Int) + 1 := by rw [IntKind.wrap_i64]; omega
  unfold srV
  go_enter Tryz.func75, Tryz.ntmps75
  go_upto_region 1 with fail
  have hx1 := (Ext.refl w).alloc (.cells #[.string s, .int .i64 c, .int .i64 e, .bool false] 35)
  obtain ⟨k0, _, _, _⟩ := box4 (Ext.refl (w.alloc (.cells #[.string s, .int .i64 c, .int .i64 e, .bool false] 35)))
  generalize w.alloc (.cells #[.string s, .int .i64 c, .int .i64 e, .bool false] 35) = w1 at *
  generalize w.heap.size = y at *
  go_wp2
  go_ret
  exact ⟨_, by rw [List.length_replicate]; rfl, Blk.new w1 _ _, hx1.size, hx1.alloc _⟩

set_option maxRecDepth 100000 in
set_option maxHeartbeats 1000000 in
theorem onlyT_any (s : ByteArray) (c e : Int) (i : Nat) (w : World) (hs : s.size ≤ 1000000) (hi : i ≤ s.size) : Calls Tryz.prog 61 #[srV s c e false, .int .i64 i] w (RetPl w ((noneL s).set i true)) := by
  have HN := Lib.hid (fun W => noneT_any s c e W hs)
  have hlt : (i : Int) < (s.size : Int) + 1 := by omega
  unfold srV at *
  go_enter Tryz.func61, Tryz.ntmps61
  go_upto_region 2 with (go_at_call 75; refine (HN.out _).mono ?_; rintro e w3 ⟨g, rfl, hB, hg, hx⟩)
  have hl : (noneL s).length = s.size + 1 := by simp
  have c1 := hB.cell i
  rw [bls_get _ _ (by rw [hl]; omega)] at c1
  have f1 := hB.frozen i
  have hx3 := ((Ext.refl w).alloc (.cells #[.string s, .int .i64 c, .int .i64 e, .bool false] 35)).trans hx
  have hgw : w.heap.size ≤ g := by simp at hg; omega
  clear hg hx HN
  generalize (noneL s)[i]'(by rw [hl]; omega) = b0 at *
  have HB := Lib.hid hB
  have HL := Lib.hid hl
  clear hB hl
  go_wp2
  go_ret
  refine ⟨g, by rw [List.length_set, HL.out]; rfl, ?_, hgw, hx3.setCell (by exact hgw) _⟩
  rw [← bls_set]
  exact HB.out.set i _

set_option maxRecDepth 100000 in
set_option maxHeartbeats 1000000 in
theorem some_any (l : List Bool) (g : Nat) (w : World) (hB : Blk w g 4 (bls l)) (hl : l.length ≤ 10000000) (i : Nat) (hi : i < l.length) (ht : l[i] = true) (hf : ∀ j (h : j < l.length), j < i → l[j] = false) :
    Calls Tryz.prog 76 #[.slice (some ⟨g, 0, none⟩) l.length l.length] w fun r w' => r = .returned (.bool true) ∧ w = w' := by
  have HB := Lib.hid hB
  have HF := Lib.hid hf
  have HT := Lib.hid ht
  clear hB hf ht
  go_enter Tryz.func76, Tryz.ntmps76
  go_wp2
  go_loopw [3] (fun k wr => ∃ j : Nat, j ≤ i ∧ k = .int .i64 j ∧ w = wr) (fun k _ => i - (intOf k).toNat)
  case atStart => exact ⟨0, Nat.zero_le _, rfl, rfl⟩
  case round =>
    obtain ⟨j, hj, rfl, rfl⟩ := hrel
    have hjl : j < l.length := by omega
    have c1 := HB.out.cell j
    rw [bls_get _ _ hjl] at c1
    have t1 : (j : Int) < (l.length : Int) := by omega
    by_cases hji : j = i
    · subst hji
      rw [HT.out] at c1
      clear HF HB
      go_wp2
      go_ret
      exact ⟨rfl, rfl⟩
    · rw [HF.out j hjl (by omega)] at c1
      clear HF HB HT
      go_wp2
      go_roundw
      case rel => exact ⟨j + 1, by omega, by go_num, trivial⟩
      case measure => simp [intOf]; omega

/-- The places behind a leaf from place a. -/
def leafL (s : ByteArray) (c e : Int) (h : Hd) (a : Nat) : List Bool := if 0 ≤ leafK s c e h a then (noneL s).set (leafK s c e h a).toNat true else noneL s
theorem leafL_len (s : ByteArray) (c e : Int) (h : Hd) (a : Nat) : (leafL s c e h a).length = s.size + 1 := by unfold leafL; split <;> simp
theorem leafL_get (s : ByteArray) (c e : Int) (h : Hd) (a b : Nat) (hb : b < (leafL s c e h a).length) : (leafL s c e h a)[b] = decide (leafK s c e h a = b) := by
  unfold leafL
  split
  · rename_i h0
    rw [List.getElem_set]
    split
    · rename_i h1
      symm
      rw [decide_eq_true_eq]
      omega
    · rw [List.getElem_replicate]
      symm
      rw [decide_eq_false_iff_not]
      omega
  · rw [List.getElem_replicate]
    symm
    rw [decide_eq_false_iff_not]
    omega

set_option maxRecDepth 100000 in
set_option maxHeartbeats 4000000 in
theorem over_leaf (s : ByteArray) (c e : Int) (h : Hd) (sv : Value) (a g0 : Nat) (w : World) (hk : 1 ≤ h.kind ∧ h.kind ≤ 4) (ha : a ≤ s.size) (hs : s.size ≤ 1000000) (hB : Blk w g0 4 (bls ((noneL s).set a true))) :
    Calls Tryz.prog 60 #[nodeV h sv, srV s c e false, .slice (some ⟨g0, 0, none⟩) (s.size + 1) (s.size + 1)] w (RetPl w (leafL s c e h a)) := by
  have HN := Lib.hid (fun W => noneT_any s c e W hs)
  have HL := Lib.hid (fun W => leaf_any s c e h sv a W hk (by omega) (by omega) hs)
  have HS := Lib.hid (fun W (hW : Ext w W) => (by
    have := some_any ((noneL s).set a true) g0 W (hB.ext hW) (by simp; omega) a (by simp; omega) (by simp) (fun j hj hja => by rw [List.getElem_set_ne (by omega)]; simp)
    rwa [List.length_set, List.length_replicate] at this : Calls Tryz.prog 76 #[.slice (some ⟨g0, 0, none⟩) (s.size + 1) (s.size + 1)] W fun r w' => r = .returned (.bool true) ∧ W = w'))
  have HC := Lib.hid (fun W (hW : Ext w W) k (hk : k < s.size + 1) => (by
    have := (hB.ext hW).cell k
    rw [bls_get _ _ (by simpa using hk), List.getElem_set] at this
    rw [this]
    congr 2
    split
    · rename_i h1; simp [h1]
    · rename_i h1; simp; omega : W.cell? ⟨g0, k, none⟩ = some (.bool (decide (k = a)))))
  have HLL := Lib.hid (leafL_len s c e h a)
  have HLF := Lib.hid (show leafL s c e h a = if 0 ≤ leafK s c e h a then (noneL s).set (leafK s c e h a).toNat true else noneL s from rfl)
  have HRg := Lib.hid (leafK_rng s c e h a (by omega) (by omega))
  have HG0 := Lib.hid hB.lt
  have e5 : (h.kind == 5) = false := by rw [beq_eq_false_iff_ne]; omega
  have e6 : (h.kind == 6) = false := by rw [beq_eq_false_iff_ne]; omega
  have e7 : (h.kind == 7) = false := by rw [beq_eq_false_iff_ne]; omega
  have e8 : (h.kind == 8) = false := by rw [beq_eq_false_iff_ne]; omega
  clear hB hk
  generalize leafL s c e h a = res at *
  generalize leafK s c e h a = K at *
  unfold srV at *
  go_enter Tryz.func60, Tryz.ntmps60
  go_upto_region 1 with (refine wpl_boxNd rfl _ rfl h _ rfl ?_; intro z w1 hb hx1 ex sx)
  have hx2 := hx1.alloc (.cells #[.string s, .int .i64 c, .int .i64 e, .bool false] 35)
  have k4 := Blk.new w1 35 #[.string s, .int .i64 c, .int .i64 e, .bool false]
  replace hb := hb.ext ((Ext.refl w1).alloc (.cells #[.string s, .int .i64 c, .int .i64 e, .bool false] 35))
  generalize w1.alloc (.cells #[.string s, .int .i64 c, .int .i64 e, .bool false] 35) = w2 at *
  generalize w1.heap.size = y at *
  clear ex sx hx1
  obtain ⟨k0, k1, k2, k3⟩ := (⟨k4.cell 0, k4.cell 1, k4.cell 2, k4.cell 3⟩ : w2.cell? ⟨y, 0, none⟩ = some (.string s) ∧ w2.cell? ⟨y, 1, none⟩ = some (.int .i64 c) ∧ w2.cell? ⟨y, 2, none⟩ = some (.int .i64 e) ∧ w2.cell? ⟨y, 3, none⟩ = some (.bool false))
  have n0 : w2.cell? ⟨z, 0, none⟩ = some (.int .i64 h.kind) := hb.cell 0
  go_upto_region 2 with (go_at_call 75; refine (HN.out _).mono ?_; rintro e w3 ⟨g, rfl, hB3, hg, hx3⟩)
  have hgz : z < w2.heap.size := hb.lt
  have hgy : y < w2.heap.size := k4.lt
  have h2s := hx2.size
  replace n0 := hx3.cell n0
  replace hb := hb.ext hx3
  replace k4 := k4.ext hx3
  replace hx2 := hx2.trans hx3
  clear hx3 k0 k1 k2 k3
  go_upto_region 22 with (go_at_call 76; refine (HS.out _ hx2).mono ?_; rintro e w4 ⟨rfl, rfl⟩)
  have hB3' := Lib.hid hB3
  have hkk : Keeps (· = g) w3 w3 := Keeps.refl _ _
  have hN0 : (noneL s).length = s.size + 1 := by simp
  have HN0 := Lib.hid hN0
  clear hN0 n0 e5 e6 e7 e8 HS HN
  have hgg : w.heap.size ≤ g := by omega
  have hzg : z ≠ g := by omega
  have hyg : y ≠ g := by omega
  have hg0 : g0 ≠ g := by have := HG0.out; omega
  have HZG := Lib.hid hzg
  have HYG := Lib.hid hyg
  have HGG := Lib.hid hg0
  clear hzg hyg hg0 hgz hgy h2s hg HG0
  clear HN0
  go_upto_region 23 with fail
  go_loopw [11] (fun i wr => ∃ k : Nat, k ≤ s.size + 1 ∧ i = .int .i64 k ∧ Blk wr g 4 (bls (if k ≤ a then noneL s else res)) ∧ Keeps (· = g) w3 wr) (fun i _ => s.size + 1 - (intOf i).toNat)
  case atStart => exact ⟨0, Nat.zero_le _, rfl, by rw [if_pos (Nat.zero_le _)]; exact hB3, hkk⟩
  case round =>
    clear hkk hB3 hB3'
    obtain ⟨k, hk, rfl, hBr, hkr⟩ := hrel
    have hxr : Ext w wr := hx2.keeps hkr (fun i hi e => by omega)
    by_cases hlt : k < s.size + 1
    · have c0 := HC.out wr hxr k hlt
      have t1 : (k : Int) < (s.size : Int) + 1 := by omega
      by_cases hka : k = a
      · subst hka
        rw [decide_eq_true rfl] at c0
        rw [if_pos (Nat.le_refl _)] at hBr
        have hbr := hb.keeps hkr HZG.out
        have k4r := k4.keeps hkr HYG.out
        obtain ⟨k0, k1, k2, k3⟩ := (⟨k4r.cell 0, k4r.cell 1, k4r.cell 2, k4r.cell 3⟩ : wr.cell? ⟨y, 0, none⟩ = some (.string s) ∧ wr.cell? ⟨y, 1, none⟩ = some (.int .i64 c) ∧ wr.cell? ⟨y, 2, none⟩ = some (.int .i64 e) ∧ wr.cell? ⟨y, 3, none⟩ = some (.bool false))
        have HBR := Lib.hid hBr
        clear hBr k4r HC
        by_cases h0 : 0 ≤ K
        · obtain ⟨j, rfl⟩ := Int.eq_ofNat_of_zero_le h0
          have hj : j < s.size + 1 := by have := HRg.out; omega
          have HRS := Lib.hid (show res = (noneL s).set j true by rw [HLF.out, if_pos h0, Int.toNat_natCast])
          have t2 : (j : Int) < (s.size : Int) + 1 := by omega
          clear HLF HRg
          go_upto_region 28 with (first
            | (refine wpl_loadNd rfl _ rfl z 0 h _ rfl hbr.nd ?_)
            | (go_at_call 79; refine (HL.out _).mono ?_; rintro e w6 ⟨rfl, hx6⟩))
          have hB6 := HBR.out.ext hx6
          have c1 := hB6.cell j
          rw [bls_get _ _ (by simpa using hj)] at c1
          have f1 := hB6.frozen j
          have HB6 := Lib.hid hB6
          clear hB6
          generalize (noneL s)[j]'(by simpa using hj) = b0 at *
          go_wp2
          go_roundw
          case rel =>
            refine ⟨k + 1, by omega, by go_num, ?_, (hkr.ext' hx6).setCell (.inr rfl) _⟩
            rw [if_neg (by omega), HRS.out, ← bls_set]
            exact HB6.out.set j _
          case measure => simp [intOf]; omega
        · have t2 : ¬ 0 ≤ K := h0
          have HRS := Lib.hid (show res = noneL s by rw [HLF.out, if_neg h0])
          clear HLF HRg h0
          go_wp2_with (first
            | (refine wpl_loadNd rfl _ rfl z 0 h _ rfl hbr.nd ?_)
            | (go_at_call 79; refine (HL.out _).mono ?_; rintro e w6 ⟨rfl, hx6⟩))
          go_roundw
          case rel =>
            refine ⟨k + 1, by omega, by go_num, ?_, hkr.ext' hx6⟩
            rw [if_neg (by omega), HRS.out]
            exact HBR.out.ext hx6
          case measure => simp [intOf]; omega
      · rw [decide_eq_false hka] at c0
        have HBR := Lib.hid hBr
        clear hBr HC HL HLF HRg hb k4
        go_wp2
        go_roundw
        case rel =>
          refine ⟨k + 1, by omega, by go_num, ?_, hkr⟩
          have := HBR.out
          by_cases h1 : k + 1 ≤ a
          · rw [if_pos h1]; rw [if_pos (by omega)] at this; exact this
          · rw [if_neg h1]; rw [if_neg (by omega)] at this; exact this
        case measure => simp [intOf]; omega
    · rw [if_neg (by omega)] at hBr
      have t1 : ¬ (k : Int) < (s.size : Int) + 1 := by omega
      clear HC HL HLF HRg hb k4
      go_wp2
      go_ret
      exact ⟨g, by rw [HLL.out]; rfl, hBr, hgg, hxr⟩

end Go.Proofs.YtgfknlkpdiejgaaGreatDoor

namespace Go.Proofs.YtgfknlkpdiejgaaGreatDoor
open Go Go.RowKit

set_option maxRecDepth 100000 in
set_option maxHeartbeats 4000000 in
theorem takes_leaf (s : ByteArray) (c e : Int) (h : Hd) (sv : Value) (a b : Int) (w : World) (hk : 1 ≤ h.kind ∧ h.kind ≤ 4) (ha : 0 ≤ a) (hab : a ≤ b) (hbs : b ≤ s.size) (hs : s.size ≤ 1000000) :
    Calls Tryz.prog 33 #[nodeV h sv, srV s c e false, .int .i64 a, .int .i64 b] w fun r w' => r = .returned (.bool (leafB s c e h a b)) ∧ Ext w w' := by
  obtain ⟨a, rfl⟩ := Int.eq_ofNat_of_zero_le ha
  obtain ⟨b, rfl⟩ := Int.eq_ofNat_of_zero_le (show 0 ≤ b by omega)
  have HOn := Lib.hid (fun W => onlyT_any s c e a W hs (by omega))
  have HOv := Lib.hid (fun W g hB => over_leaf s c e h sv a g W hk (by omega) hs hB)
  have HR := Lib.hid (show leafB s c e h a b = decide (leafK s c e h a = b) from leafB_K s c e h a b hk (by omega) hab)
  have HLL := Lib.hid (leafL_len s c e h a)
  have HLG := Lib.hid (leafL_get s c e h a b)
  have hbl : b < s.size + 1 := by omega
  have HOn2 := Lib.hid (fun W => (by
    have := HOn.out W
    unfold RetPl at this
    simp only [List.length_set, List.length_replicate] at this
    exact this : Calls Tryz.prog 61 #[srV s c e false, .int .i64 a] W fun r w' => ∃ g, r = .returned (.slice (some ⟨g, 0, none⟩) (s.size + 1) (s.size + 1)) ∧ Blk w' g 4 (bls ((noneL s).set a true)) ∧ W.heap.size ≤ g ∧ Ext W w'))
  have HOv2 := Lib.hid (fun W g hB => (by
    have := HOv.out W g hB
    unfold RetPl at this
    rw [HLL.out] at this
    exact this : Calls Tryz.prog 60 #[nodeV h sv, srV s c e false, .slice (some ⟨g, 0, none⟩) (s.size + 1) (s.size + 1)] W fun r w' => ∃ g', r = .returned (.slice (some ⟨g', 0, none⟩) (s.size + 1) (s.size + 1)) ∧ Blk w' g' 4 (bls (leafL s c e h a)) ∧ W.heap.size ≤ g' ∧ Ext W w'))
  clear HOn HOv hk ha hab hs
  generalize leafB s c e h a b = res at *
  generalize leafL s c e h a = L at *
  unfold srV nodeV at *
  go_enter Tryz.func33, Tryz.ntmps33
  go_upto_region 1 with (refine wpl_boxNd rfl _ rfl h sv rfl ?_; intro z w1 hb hx1 ex sx)
  have hx2 := hx1.alloc (.cells #[.string s, .int .i64 c, .int .i64 e, .bool false] 35)
  have k4 := Blk.new w1 35 #[.string s, .int .i64 c, .int .i64 e, .bool false]
  replace hb := hb.ext ((Ext.refl w1).alloc (.cells #[.string s, .int .i64 c, .int .i64 e, .bool false] 35))
  generalize w1.alloc (.cells #[.string s, .int .i64 c, .int .i64 e, .bool false] 35) = w2 at *
  generalize w1.heap.size = y at *
  clear ex sx hx1
  have KS := Lib.hid (fun w' (hw' : Ext w2 w') => (⟨⟨(hb.ext hw').cell 0, (hb.ext hw').cell 1, (hb.ext hw').cell 2, (hb.ext hw').cell 3, (hb.ext hw').cell 4, (hb.ext hw').cell 5, (hb.ext hw').cell 6, (hb.ext hw').cell 7, (hb.ext hw').cell 8, (hb.ext hw').cell 9⟩, ⟨(k4.ext hw').cell 0, (k4.ext hw').cell 1, (k4.ext hw').cell 2, (k4.ext hw').cell 3⟩⟩ :
    (w'.cell? ⟨z, 0, none⟩ = some (.int .i64 h.kind) ∧ w'.cell? ⟨z, 1, none⟩ = some (.int .u64 (wd h.set 0 : Int)) ∧ w'.cell? ⟨z, 2, none⟩ = some (.int .u64 (wd h.set 1 : Int)) ∧ w'.cell? ⟨z, 3, none⟩ = some (.int .u64 (wd h.set 2 : Int)) ∧ w'.cell? ⟨z, 4, none⟩ = some (.int .u64 (wd h.set 3 : Int)) ∧ w'.cell? ⟨z, 5, none⟩ = some sv ∧ w'.cell? ⟨z, 6, none⟩ = some (.int .i64 h.num) ∧ w'.cell? ⟨z, 7, none⟩ = some (.int .i64 h.min) ∧ w'.cell? ⟨z, 8, none⟩ = some (.int .i64 h.max) ∧ w'.cell? ⟨z, 9, none⟩ = some (.bool h.bare)) ∧
    (w'.cell? ⟨y, 0, none⟩ = some (.string s) ∧ w'.cell? ⟨y, 1, none⟩ = some (.int .i64 c) ∧ w'.cell? ⟨y, 2, none⟩ = some (.int .i64 e) ∧ w'.cell? ⟨y, 3, none⟩ = some (.bool false))))
  clear hb k4
  go_region_held3 (fun w' => (w'.cell? ⟨z, 0, none⟩ = some (.int .i64 h.kind) ∧ w'.cell? ⟨z, 1, none⟩ = some (.int .u64 (wd h.set 0 : Int)) ∧ w'.cell? ⟨z, 2, none⟩ = some (.int .u64 (wd h.set 1 : Int)) ∧ w'.cell? ⟨z, 3, none⟩ = some (.int .u64 (wd h.set 2 : Int)) ∧ w'.cell? ⟨z, 4, none⟩ = some (.int .u64 (wd h.set 3 : Int)) ∧ w'.cell? ⟨z, 5, none⟩ = some sv ∧ w'.cell? ⟨z, 6, none⟩ = some (.int .i64 h.num) ∧ w'.cell? ⟨z, 7, none⟩ = some (.int .i64 h.min) ∧ w'.cell? ⟨z, 8, none⟩ = some (.int .i64 h.max) ∧ w'.cell? ⟨z, 9, none⟩ = some (.bool h.bare)) ∧
    (w'.cell? ⟨y, 0, none⟩ = some (.string s) ∧ w'.cell? ⟨y, 1, none⟩ = some (.int .i64 c) ∧ w'.cell? ⟨y, 2, none⟩ = some (.int .i64 e) ∧ w'.cell? ⟨y, 3, none⟩ = some (.bool false)))
    ((first | exact KS.out _ (Ext.refl _).drew | exact KS.out _ hX6 | exact KS.out _ hX5))
    (first
      | (go_at_call 61; refine (HOn2.out _).mono ?_; rintro e w5 ⟨g5, rfl, hB5, hg5, hx5⟩; have hX5 : Ext w2 w5 := (Ext.refl w2).drewr.trans hx5)
      | (go_at_call 60; refine (HOv2.out _ g5 hB5).mono ?_; rintro e w6 ⟨g6, rfl, hB6, hg6, hx6⟩; have hX6 : Ext w2 w6 := hX5.trans hx6))
  all_goals
    have c1 := hB6.cell b
    rw [bls_get _ _ (by rw [HLL.out]; exact hbl)] at c1
    have hxf := hx2.trans hX6
    have t1 : (b : Int) < (s.size : Int) + 1 := by omega
    have HF := Lib.hid (HLG.out (by rw [HLL.out]; exact hbl))
    have HFR := Lib.hid (HR.out.trans HF.out.symm)
    generalize L[b]'(by rw [HLL.out]; exact hbl) = lb at *
    clear hB6 hB5 hg5 hg6 hx5 hx6 hX5 hX6 KS HOn2 HOv2 HLG HR HF HLL
    go_wp2
    go_ret
    exact ⟨by rw [HFR.out]; rfl, hxf⟩

end Go.Proofs.YtgfknlkpdiejgaaGreatDoor

namespace Go.Proofs.YtgfknlkpdiejgaaGreatDoor
open Go Go.RowKit

section
variable {s : ByteArray} {c e : Int}
end

end Go.Proofs.YtgfknlkpdiejgaaGreatDoor
