/- The errors' texts: trawllaw01.texts as a contract. Condition: where the error values lie. -/
import Derived.Test.YteahmkhmkalimaaDoorWrap
import Derived.Test.YteahmkhmkalimaaDoorNumErr
import Derived.Deep.RegionWith
import Derived.Laws.Concat
namespace Go.Proofs.YteahmkhmkalimaaDoor
open Go.RowKit

def txS (k : Nat) : ByteArray := ⟨(errTexts.getD k []).toArray⟩
def wdS (k : Nat) : ByteArray := ⟨((errTexts.getD k []).drop 7).toArray⟩
def wdC : Array Value := ((List.range 21).map fun i => Value.string (wdS i)).toArray
theorem wdC_get (i : Nat) (h : i < 21) : wdC[i]? = some (.string (wdS i)) := by unfold wdC; simp [h]
theorem wdC_eq : wdC = #[.string ⟨#[98, 114, 97, 99, 107, 101, 116]⟩, .string ⟨#[112, 97, 114, 101, 110, 116, 104, 101, 115, 105, 115]⟩, .string ⟨#[98, 114, 97, 99, 101]⟩, .string ⟨#[99, 111, 117, 110, 116]⟩, .string ⟨#[114, 97, 110, 103, 101]⟩, .string ⟨#[99, 108, 97, 115, 115]⟩, .string ⟨#[99, 111, 108, 108, 97, 116, 105, 110, 103]⟩, .string ⟨#[101, 115, 99, 97, 112, 101]⟩, .string ⟨#[114, 101, 112, 101, 97, 116]⟩, .string ⟨#[116, 111, 111, 32, 98, 105, 103]⟩, .string ⟨#[110, 101, 115, 116, 105, 110, 103]⟩, .string ⟨#[108, 111, 110, 103]⟩, .string ⟨#[116, 114, 101, 101]⟩, .string ⟨#[100, 101, 101, 112]⟩, .string ⟨#[97, 114, 103, 117, 109, 101, 110, 116]⟩, .string ⟨#[110, 111, 32, 109, 97, 116, 99, 104]⟩, .string ⟨#[105, 109, 97, 103, 101]⟩, .string ⟨#[109, 97, 110, 121]⟩, .string ⟨#[111, 112, 116, 105, 111, 110]⟩, .string ⟨#[99, 111, 109, 109, 97, 110, 100]⟩, .string ⟨#[99, 108, 111, 115, 101, 100]⟩] := rfl
theorem cat_text : ∀ k : Fin 21, ((⟨#[116, 114, 97, 119, 108, 58, 32]⟩ : ByteArray) ++ wdS k.val).data.toList = (txS k.val).data.toList := by decide +kernel
theorem cat_is (k : Nat) (h : k < 21) : (⟨#[116, 114, 97, 119, 108, 58, 32]⟩ : ByteArray) ++ wdS k = txS k := by
  have := cat_text ⟨k, h⟩
  apply ByteArray.ext
  apply Array.toList_inj.1
  exact this
theorem wd_size : ∀ k : Fin 21, (wdS k.val).size ≤ 20 := by decide +kernel
theorem add_text (k : Nat) (h : k < 21) (w : World) : (Op.stringOp .add ⟨#[116, 114, 97, 119, 108, 58, 32]⟩ (wdS k)).run Tryd.prog w = .ok (.string (txS k)) w := by
  have h1 := wd_size ⟨k, h⟩
  have h2 : (⟨#[116, 114, 97, 119, 108, 58, 32]⟩ : ByteArray).size = 7 := rfl
  rw [run_string_add_sum w _ _ (by rw [h2]; simp only at h1; omega), cat_is k h]
theorem neq_err (a : Addr) (w : World) : (binOp .neq 36 (errV a) (errV a)).run Tryd.prog w = .ok (.bool false) w := by
  unfold errV
  obtain ⟨i, hi, hcmp⟩ := Option.map_eq_some_iff.1 isComp
  obtain ⟨j, hj, hjs⟩ := Option.map_eq_some_iff.1 isSize
  simp only [binOp]
  simp [Op.equal, Op.maxDepth, run_equalIn_iface_ptr_same w 9998 a Tryd.underlying36 Tryd.underlying86 hi hcmp hj]
theorem eql_err (a b : Addr) (ca cb : Array Value) (ta tb : TypeId) (w : World) (hne : a ≠ b) (ha : w.heap[a.block]? = some (.cells ca ta (0, 0))) (hb : w.heap[b.block]? = some (.cells cb tb (0, 0))) :
    (binOp .eql 36 (errV a) (errV b)).run Tryd.prog w = .ok (.bool false) w := by
  unfold errV
  obtain ⟨i, hi, hcmp⟩ := Option.map_eq_some_iff.1 isComp
  obtain ⟨j, hj, hjs⟩ := Option.map_eq_some_iff.1 isSize
  exact run_eql_iface_ptr_other (P := Tryd.prog) w Tryd.underlying36 Tryd.underlying86 hi hcmp hj (by rw [hjs]; decide) hne ha hb

set_option maxRecDepth 100000 in
set_option maxHeartbeats 8000000 in
theorem texts_any (A : Nat → Addr) (w : World) (h : ErrsAt w A) :
    Calls Tryd.prog 21 #[] w fun r w' => r = .returned (.bool true) ∧ Ext w w' := by
  have H := Lib.hid h
  have v0 := h.var 0 (by omega)
  have v1 := h.var 1 (by omega)
  have v2 := h.var 2 (by omega)
  have v3 := h.var 3 (by omega)
  have v4 := h.var 4 (by omega)
  have v5 := h.var 5 (by omega)
  have v6 := h.var 6 (by omega)
  have v7 := h.var 7 (by omega)
  have v8 := h.var 8 (by omega)
  have v9 := h.var 9 (by omega)
  have v10 := h.var 10 (by omega)
  have v11 := h.var 11 (by omega)
  have v12 := h.var 12 (by omega)
  have v13 := h.var 13 (by omega)
  have v14 := h.var 14 (by omega)
  have v15 := h.var 15 (by omega)
  have v16 := h.var 16 (by omega)
  have v17 := h.var 17 (by omega)
  have v18 := h.var 18 (by omega)
  have v19 := h.var 19 (by omega)
  have v20 := h.var 20 (by omega)
  simp only [gb, gbs, List.getD_cons_zero, List.getD_cons_succ] at v0 v1 v2 v3 v4 v5 v6 v7 v8 v9 v10 v11 v12 v13 v14 v15 v16 v17 v18 v19 v20
  clear h
  unfold errV at *
  go_enter Tryd.func21, Tryd.ntmps21
  go_upto_region 3 with fail
  have hB : Blk ((w.alloc (.cells (errsC A) 36)).alloc (.cells wdC 9)) w.heap.size 36 (errsC A) := (Blk.new w _ _).alloc _
  have hW : Blk ((w.alloc (.cells (errsC A) 36)).alloc (.cells wdC 9)) (w.heap.size + 1) 9 wdC := heap_alloc2_new w _ _
  have hx : Ext w ((w.alloc (.cells (errsC A) 36)).alloc (.cells wdC 9)) := ((Ext.refl w).alloc _).alloc _
  have hE : Hid (ErrsAt ((w.alloc (.cells (errsC A) 36)).alloc (.cells wdC 9)) A) := Lib.hid (H.out.ext hx)
  clear v0 v1 v2 v3 v4 v5 v6 v7 v8 v9 v10 v11 v12 v13 v14 v15 v16 v17 v18 v19 v20 H
  have ew : (w.alloc (.cells (errsC A) 36)).alloc (.cells wdC 9) = (w.alloc (.cells #[.iface 86 (.pointer (some (A 0))), .iface 86 (.pointer (some (A 1))), .iface 86 (.pointer (some (A 2))), .iface 86 (.pointer (some (A 3))), .iface 86 (.pointer (some (A 4))), .iface 86 (.pointer (some (A 5))), .iface 86 (.pointer (some (A 6))), .iface 86 (.pointer (some (A 7))), .iface 86 (.pointer (some (A 8))), .iface 86 (.pointer (some (A 9))), .iface 86 (.pointer (some (A 10))), .iface 86 (.pointer (some (A 11))), .iface 86 (.pointer (some (A 12))), .iface 86 (.pointer (some (A 13))), .iface 86 (.pointer (some (A 14))), .iface 86 (.pointer (some (A 15))), .iface 86 (.pointer (some (A 16))), .iface 86 (.pointer (some (A 17))), .iface 86 (.pointer (some (A 18))), .iface 86 (.pointer (some (A 19))), .iface 86 (.pointer (some (A 20)))] 36)).alloc (.cells #[.string ⟨#[98, 114, 97, 99, 107, 101, 116]⟩, .string ⟨#[112, 97, 114, 101, 110, 116, 104, 101, 115, 105, 115]⟩, .string ⟨#[98, 114, 97, 99, 101]⟩, .string ⟨#[99, 111, 117, 110, 116]⟩, .string ⟨#[114, 97, 110, 103, 101]⟩, .string ⟨#[99, 108, 97, 115, 115]⟩, .string ⟨#[99, 111, 108, 108, 97, 116, 105, 110, 103]⟩, .string ⟨#[101, 115, 99, 97, 112, 101]⟩, .string ⟨#[114, 101, 112, 101, 97, 116]⟩, .string ⟨#[116, 111, 111, 32, 98, 105, 103]⟩, .string ⟨#[110, 101, 115, 116, 105, 110, 103]⟩, .string ⟨#[108, 111, 110, 103]⟩, .string ⟨#[116, 114, 101, 101]⟩, .string ⟨#[100, 101, 101, 112]⟩, .string ⟨#[97, 114, 103, 117, 109, 101, 110, 116]⟩, .string ⟨#[110, 111, 32, 109, 97, 116, 99, 104]⟩, .string ⟨#[105, 109, 97, 103, 101]⟩, .string ⟨#[109, 97, 110, 121]⟩, .string ⟨#[111, 112, 116, 105, 111, 110]⟩, .string ⟨#[99, 111, 109, 109, 97, 110, 100]⟩, .string ⟨#[99, 108, 111, 115, 101, 100]⟩] 9) := rfl
  rw [← ew]
  clear ew
  generalize (w.alloc (.cells (errsC A) 36)).alloc (.cells wdC 9) = w1 at *
  have hGW : w.heap.size + 1 < w1.heap.size := hW.lt
  go_wp2
  go_loopw [3, 4, 5, 6, 7, 33] (fun _ _ _ _ _ j wr => ∃ k : Nat, k ≤ 21 ∧ j = .int .i64 k ∧ Blk wr w.heap.size 36 (errsC A) ∧ Blk wr (w.heap.size + 1) 9 wdC ∧ Ext w wr ∧ Hid (ErrsAt wr A)) (fun _ _ _ _ _ j _ => 21 - (intOf j).toNat)
  case atStart => exact ⟨0, by omega, rfl, hB, hW, hx, hE⟩
  case round =>
    clear hB hW hx hE
    obtain ⟨k, hk, rfl, hB, hW, hx, hE⟩ := hrel
    by_cases hlt : k < 21
    · have c := hB.cell k
      rw [errsC_get A k hlt] at c
      have cw := hW.cell k
      rw [wdC_get k hlt] at cw
      obtain ⟨s, hs1, hs2⟩ := hE.out.txt k hlt
      have hs3 : s = txS k := by
        apply ByteArray.ext
        apply Array.toList_inj.1
        exact hs2
      subst hs3
      clear hs2
      have hadd := add_text k hlt
      have hne := fun m (hm : m < k) => hE.out.ne m k (by omega) hlt (by omega)
      have hadr := fun m (hm : m < 21) => hE.out.blk m hm
      have HA := Lib.hid hne
      have HD := Lib.hid hadr
      clear hne hadr
      generalize wdS k = sw at *
      generalize txS k = sx at *
      unfold errV at c
      go_upto_region 6 with fail
      go_cut [49] (fun u wx => u = .bool false ∧ Ext wr wx)
      case first =>
        go_region_with (go_at_call 80; refine (err_text (A k) sx wr.drew hs1).mono ?_; rintro e w4 ⟨rfl, hw4⟩; subst hw4)
        all_goals
          go_wp2
          go_meet
          case rel => exact ⟨rfl, (Ext.refl wr).drew⟩
      case rest =>
        obtain ⟨rfl, hx4⟩ := hcut
        replace hB := hB.ext hx4
        replace hW := hW.ext hx4
        replace hx := hx.trans hx4
        replace hE := Lib.hid (hE.out.ext hx4)
        replace hs1 := hx4.cell hs1
        have HD2 := Lib.hid (fun m (hm : m < 21) => hE.out.blk m hm)
        clear HD c cw hx4
        go_wp2
        go_loop [5] (fun j => ∃ m : Nat, m ≤ k ∧ j = .int .i64 m) (fun j => k - (intOf j).toNat)
        case atStart => exact ⟨0, by omega, rfl⟩
        case round =>
          obtain ⟨m, hm, rfl⟩ := hrel
          by_cases hmk : m < k
          · have cm := hB.cell m
            rw [errsC_get A m (by omega)] at cm
            obtain ⟨ca, ta, ha⟩ := HD2.out m (by omega)
            obtain ⟨cb, tb, hb⟩ := HD2.out k hlt
            have hq := eql_err (A m) (A k) ca cb ta tb _ (HA.out m hmk) ha hb
            clear ha hb
            unfold errV at cm hq
            go_wp2
            go_round
            case rel => exact ⟨m + 1, by omega, by go_num⟩
            case measure => simp [intOf]; omega
          · have hmk2 : m = k := by omega
            subst hmk2
            clear HA HD2
            go_upto_region 15 with fail
            obtain ⟨w5, hw5⟩ : ∃ w5, w5 = (wc.alloc (.cells #[.int .i64 m, .iface 86 (.pointer (some (A m)))] 61)).alloc (.cells #[.int .i64 m, .iface 59 (.pointer (some ⟨wc.heap.size, 0, none⟩))] 64) := ⟨_, rfl⟩
            rw [← hw5]
            have hF : Blk w5 wc.heap.size 61 #[.int .i64 m, errV (A m)] := by rw [hw5]; exact (Blk.new wc _ _).alloc _
            have hL : Blk w5 (wc.heap.size + 1) 64 #[.int .i64 m, fltI wc.heap.size] := by rw [hw5]; exact heap_alloc2_new wc _ _
            have hx5 : Ext wc w5 := by rw [hw5]; exact ((Ext.refl wc).alloc _).alloc _
            clear hw5
            replace hB := hB.ext hx5
            replace hW := hW.ext hx5
            replace hx := hx.trans hx5
            replace hE := Lib.hid (hE.out.ext hx5)
            replace hs1 := hx5.cell hs1
            have HU := Lib.hid (fault_unwrap (A m) _ _ w5 hF)
            have HT := Lib.hid (listed_text (A m) sx _ _ _ w5 hL hF hs1)
            have HI := Lib.hid (is_listed (A m) _ _ _ w5 hL hF)
            have HV := Lib.hid (err_text (A m) sx w5 hs1)
            have hnq := neq_err (A m) w5
            clear hF hL hx5
            generalize wc.heap.size = gf at *
            unfold errV lstI fltV at *
            go_wp2_with (first
              | (go_at_call 41; refine HU.out.mono ?_; rintro e w6 ⟨rfl, rfl⟩)
              | (go_at_call 42; refine HT.out.mono ?_; rintro e w6 ⟨rfl, rfl⟩)
              | (go_at_call 80; refine HV.out.mono ?_; rintro e w6 ⟨rfl, rfl⟩)
              | (go_at_call 43; refine HI.out.mono ?_; rintro e w6 ⟨rfl, rfl⟩))
            go_roundw
            case rel => exact ⟨m + 1, by omega, by go_num, hB, hW, hx, hE⟩
            case measure => simp [intOf]; omega
    · go_wp2
      go_ret
      exact ⟨rfl, hx⟩

end Go.Proofs.YteahmkhmkalimaaDoor
