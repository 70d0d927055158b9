/- tree.Text as a contract: a text's bytes, one node each. Condition: the text is short. -/
import Derived.Test.YtkcgbdoplhgbmaaDoorTree2
import Derived.Test.YtkcgbdoplhgbmaaDoorSetC
namespace Go.Proofs.YtkcgbdoplhgbmaaDoor
open Go Go.RowKit

def leafN (b : Nat) : Nd := .mk ⟨2, fun x => x == b, 0, 0, 0, false⟩ []
def textN (bs : List UInt8) : Nd := seqN (bs.map fun b => leafN b.toNat)
theorem zero_set : (Tryd.prog.info? 24).map (fun i => i.zero) = some (some (.agg (setC fun _ => false))) := by kernel_rfl
theorem wpl_allocSet {ops : Array Oper} {rest : List Oper} {o : Oper} {a : Act} {w : World} {Q : Exit → Act → World → Prop} (hgd : o.guard = none) (ho : o.op = .alloc 24)
    (hK : ∀ g w1, Blk w1 g 24 (setC fun _ => false) → Ext w w1 → w.heap.size ≤ g → g < w1.heap.size → wpList Tryd.prog ops Q rest (a.put o.dst (.pointer (some ⟨g, 0, none⟩))) w1) : wpList Tryd.prog ops Q (o :: rest) a w :=
  wpList_plain hgd fun _ hKK => by
    have hr : (execOp a.eval o).run Tryd.prog w = .ok (.value (.pointer (some ⟨w.heap.size, 0, none⟩))) (w.alloc (.cells (setC fun _ => false) 24)) := by
      unfold execOp
      rw [ho]
      simp [Instr.alloc, newVar, newRow, Value.cells]
      rfl
    unfold Oper.wp
    rw [hr]
    exact hKK _ _ (hK _ _ (Blk.new w _ _) ((Ext.refl w).alloc _) (Nat.le_refl _) (by simp))

set_option maxRecDepth 100000 in
set_option maxHeartbeats 4000000 in
theorem bytes_any (p : Nat → Bool) (w : World) :
    Calls Tryd.prog 81 #[setV p] w (RetNd w (.mk ⟨2, p, 0, 0, 0, false⟩ [])) := by
  unfold setV u64v
  go_enter Tryd.func81, Tryd.ntmps81
  go_upto_region 1 with (refine wpl_allocNd rfl rfl ?_; intro z w2 hz hx2 ez sz)
  have hx := ((Ext.refl w).alloc (.cells #[.int .u64 (wd p 0 : Int), .int .u64 (wd p 1 : Int), .int .u64 (wd p 2 : Int), .int .u64 (wd p 3 : Int)] 24)).trans hx2
  obtain ⟨b0, b1, b2, b3⟩ := box4 hx2
  have hs : w.heap.size ≤ z := by simp at ez; omega
  clear ez
  go_wp2_with (refine wpl_storeNd rfl _ _ rfl rfl z ⟨2, p, 0, 0, 0, false⟩ _ (.slice none 0 0) _ rfl rfl (isSl_mk _ _ _) hz ?_; intro w3 hz3 hk3)
  exact ret_nd rfl rfl rfl hz3 ⟨_, rfl, NdNew.nil _ _ _ _ _, hx.keep1 hk3 hs⟩

theorem one_word (b : Nat) (h : b < 256) : (setC fun _ => false).setIfInBounds (b / 64) (.int .u64 (IntKind.u64.wrap (2 ^ (b % 64)))) = setC (fun x => x == b) := by
  have h1 := setC_ins (fun _ => false) b h
  have e : insB (fun _ => false) b = fun x => x == b := by funext x; simp [insB]
  have h2 : (2 : Nat) ^ (b % 64) < 2 ^ 64 := Nat.pow_lt_pow_right (a := 2) (m := b % 64) (n := 64) (by decide) (by omega)
  have e0 : ((2 : Int) ^ (b % 64)) = ((2 ^ (b % 64) : Nat) : Int) := by rw [Int.natCast_pow]; rfl
  rw [e, wd_none, Nat.zero_or] at h1
  rw [← h1, u64v, e0, IntKind.wrap_u64]
  generalize 2 ^ (b % 64) = y at *
  congr 2
  omega

set_option maxRecDepth 100000 in
set_option maxHeartbeats 4000000 in
theorem text_any (s : ByteArray) (w : World) (hs : s.size ≤ 1000000) :
    Calls Tryd.prog 56 #[.string s] w (RetNd w (textN s.data.toList)) := by
  go_enter Tryd.func56, Tryd.ntmps56
  go_upto_region 1 with (refine wpl_allocNd rfl rfl ?_; intro z w2 hz hx2 ez sz)
  have hL0 : LstFp w2 w2.heap.size 27 (.slice none 0 0) [] := LstFp.nil _ _ _
  have hx22 : Ext w2 w2 := Ext.refl w2
  have h2 := hx2.size
  go_wp2
  go_loopw [3, 4] (fun v i wr => ∃ (k : Nat) (l : List Kid), k ≤ s.size ∧ i = .int .i64 k ∧ l.map (·.1) = (s.data.toList.take k).map (fun b => leafN b.toNat) ∧ LstFp wr w2.heap.size 27 v l ∧ Ext w2 wr) (fun _ i _ => s.size - (intOf i).toNat)
  case atStart => exact ⟨0, [], Nat.zero_le _, rfl, rfl, hL0, hx22⟩
  case round =>
    clear hL0 hx22
    obtain ⟨k, l, hk, rfl, hl, hL, hx⟩ := hrel
    have HL := Lib.hid hl
    clear hl
    by_cases hlt : k < s.size
    · have hll : l.length = k := by have := congrArg List.length HL.out; simp at this; omega
      have hll2 : l.length ≤ 1000000000 := by omega
      have HM := Lib.hid (show (l.map (·.1)) ++ [leafN s[k].toNat] = (s.data.toList.take (k + 1)).map (fun b => leafN b.toNat) by rw [HL.out, List.take_succ_eq_append_getElem (by simpa using hlt), List.map_append]; rfl)
      have hb := s[k].toNat_lt
      clear HL hll
      go_upto_region 6 with (refine wpl_allocSet rfl rfl ?_; intro g w4 hg hx4 e4 s4)
      simp only [Act.put, List.setIfInBounds_toArray, List.set_cons_succ, List.set_cons_zero]
      go_cut [] (fun wx => Blk wx g 24 (setC fun x => x == s[k].toNat) ∧ Ext wr wx)
      case first =>
        have hi4 : s[k].toNat / 64 < 4 := by omega
        have h3 := hg.frozen (s[k].toNat / 64)
        have h4 := hg.cell (s[k].toNat / 64)
        rw [setC_get _ _ hi4] at h4
        unfold u64v at h4
        go_region
        go_wp2
        go_meet
        case rel =>
          refine ⟨?_, (hx4.setCell e4 _).drew⟩
          have := hg.set (s[k].toNat / 64) (.int .u64 (IntKind.u64.wrap (2 ^ (s[k].toNat % 64))))
          rw [one_word _ (by omega)] at this
          exact this.drew
      obtain ⟨hs5, hx5⟩ := hcut
      generalize wc = w5 at *
      go_wp2_with (first
        | (refine wpl_loadSet rfl _ rfl g _ (fun x => x == s[k].toNat) rfl hs5 ?_)
        | (go_at_call 81; refine (bytes_any (fun x => x == s[k].toNat) _).mono ?_; rintro e w6 ⟨sv6, rfl, hn6, hx6⟩)
        | (refine wpl_oneNd rfl _ rfl (leafN s[k].toNat).h sv6 rfl ?_; intro g7 w7 hb7 hx7 e7 s7)
        | (refine wpl_appFp rfl _ _ rfl w2.heap.size u3 l (leafN s[k].toNat) sv6 g7 1 wr rfl rfl hL ((hx5.trans hx6).trans hx7) hx.size ((hn6.ext hx7).mono hx5.size) hb7 hll2 ?_; intro v8 w8 hL8 hx78 hg8))
      have hx8 : Ext w2 w8 := ext_grown_lst (hx.trans hx78) hL (Nat.le_refl _) hg8
      obtain ⟨f, hL8⟩ := hL8
      clear hL hx hg hx4 e4 s4 hs5 hx5 hn6 hx6 hb7 hx7 hg8 hx78 e7 s7
      go_roundw
      case rel => exact ⟨k + 1, l ++ [(leafN s[k].toNat, sv6, f)], by omega, by go_num, by simpa using HM.out, hL8, hx8⟩
      case measure => simp [intOf]; omega
    · have hd1 : ¬ (k : Int) < (s.size : Int) := by omega
      have HN2 := Lib.hid (hL.node (hdV 0))
      have hts : s.data.toList.take k = s.data.toList := List.take_of_length_le (by simp; omega)
      rw [hts] at HL
      have HSQ := Lib.hid (fun W (hW : Ext wr W) => seq_any (l.map (·.1)) u3 W ((HN2.out.ext hW).ok) ⟨by rw [HL.out]; simp; omega, smallL_of fun n hn => by
        rw [HL.out] at hn
        obtain ⟨b, _, rfl⟩ := List.mem_map.1 hn
        exact ⟨by simp, trivial⟩⟩)
      have HE := Lib.hid (show seqN (l.map (·.1)) = textN s.data.toList by rw [HL.out]; rfl)
      have hwx := hx2.trans hx
      have hsz := hx.size
      clear hts HL HN2 hL
      generalize seqN (l.map (·.1)) = res at *
      go_wp2_with (first
        | (go_at_call 82; refine (HSQ.out _ (Ext.refl _)).mono ?_; rintro e w6 ⟨sv6, rfl, hn6, hx6⟩)
        | (refine wpl_storeNd rfl _ _ rfl rfl z res.h _ sv6 _ rfl rfl hn6.ok.sl (hz.ext (hx.trans hx6)) ?_; intro w7 hz7 hk7))
      exact ret_nd rfl rfl rfl hz7 ⟨sv6, by rw [← HE.out], by rw [← HE.out]; exact (hn6.keep1 hk7 (by omega)).mono (by omega), (hwx.trans hx6).keep1 hk7 (by omega)⟩

end Go.Proofs.YtkcgbdoplhgbmaaDoor
