/- The law LinesPieces as a walk. Conditions: the pieces' lengths are below a process's memory. -/
import Derived.Test.YtfgocamajfipmaaDoorLAid
namespace Go.Proofs.YtfgocamajfipmaaDoor
open Go.RowKit

theorem nil_own (i : Nat) : (Value.slice none 0 0).ownBlock ≠ some i := by intro h; cases h

theorem step_of (sz : Int) : ∃ st : Nat, wrap64 (1 + wrap64 ((IntKind.u64.wrap sz).tmod 7)) = (st : Int) ∧ 1 ≤ st ∧ st ≤ 7 := by
  have h0 : 0 ≤ IntKind.u64.wrap sz := by rw [IntKind.wrap_u64]; omega
  rw [Int.tmod_eq_emod_of_nonneg h0]
  generalize IntKind.u64.wrap sz = u at *
  refine ⟨(1 + u % 7).toNat, ?_, ?_, ?_⟩ <;> (try unfold wrap64) <;> omega
theorem take_piece (al : List UInt8) (k m : Nat) (h : k ≤ m) : al.take m = al.take k ++ (al.drop k).take (m - k) := by
  have := List.take_add (l := al) (i := k) (j := m - k)
  rwa [Nat.add_sub_cancel' h] at this

theorem joinedL_step (l : List (List UInt8)) (k : Nat) (h : k < l.length) : joinedL (l.take (k + 1)) = joinedL (l.take k) ++ (l.getD k [] ++ [10]) := by
  rw [List.take_succ_eq_append_getElem h, joinedL_snoc, List.getD_eq_getElem?_getD, List.getElem?_eq_getElem h, List.append_assoc]
  rfl
theorem empty_endB (r : List UInt8) : (⟨r.toArray⟩ : ByteArray).toList.isEmpty = !endB r := by
  rw [ByteArray.toList_eq]
  cases r <;> rfl

set_option maxRecDepth 100000 in
set_option maxHeartbeats 8000000 in
theorem lPieces_core (ps : List (List UInt8)) (A : Option Addr) (cap : Nat) (sz : Int) (w : World)
    (hc : ∀ j, j < ps.length → ∃ g o, A = some ⟨g, o, none⟩ ∧ ∃ pv, w.cell? ⟨g, o + j, none⟩ = some pv ∧ RdV w pv (ps.getD j []))
    (hb : ∀ k, (ps.getD k []).length ≤ 140737488351232) (hl : ps.length ≤ 9223372036854775807) :
    Calls Tryd.prog 3 #[.slice A ps.length cap, .int .i64 sz] w fun r w' => r = .returned (.bool true) ∧ Ext w w' := by
  have HL := Lib.hid (fun W => lLives_any W)
  have HM := Lib.hid (fun W (hW : Ext w W) => much_any ps (.slice A ps.length cap) W (RdP.ext ⟨A, cap, rfl, hc⟩ hW) hb hl)
  have HC := Lib.hid hc
  have HN := Lib.hid (fun W => new_any W)
  clear hc
  have hmn := much_no ps
  cases hm : muchB ps with
  | true =>
    rw [hm] at HM
    clear hmn hm
    go_enter Tryd.func3, Tryd.ntmps3
    go_wp2_with (first
      | (go_at_call 6; refine (HL.out _).mono ?_; rintro e w1 ⟨rfl, hx1⟩)
      | (go_at_call 7; refine (HM.out _ hx1).mono ?_; rintro e w2 ⟨rfl, rfl⟩))
    go_ret
    exact ⟨rfl, hx1⟩
  | false =>
    obtain ⟨hpl, hfl⟩ := hmn hm
    rw [hm] at HM
    clear hmn hm
    go_enter Tryd.func3, Tryd.ntmps3
    go_upto_region 5 with (first
      | (go_at_call 6; refine (HL.out _).mono ?_; rintro e w1 ⟨rfl, hx1⟩)
      | (go_at_call 7; refine (HM.out _ hx1).mono ?_; rintro e w2 ⟨rfl, rfl⟩))
    clear HL HM hb hl
    have hRa := (Rdr.new w1 w.heap.size).ext ((Ext.refl _).alloc (.cells #[.slice none 0 0, .int .i64 0, .bool false] 45))
    have hRb := Rdr.new (w1.alloc (.cells #[.slice none 0 0, .int .i64 0, .bool false] 45)) w.heap.size
    have hx3 := (hx1.alloc (.cells #[.slice none 0 0, .int .i64 0, .bool false] 45)).alloc (.cells #[.slice none 0 0, .int .i64 0, .bool false] 45)
    have hga := hx1.size
    rw [World.size_alloc] at hRb
    go_upto_region 8 with (first
      | (go_at_call 8; refine (HN.out _).mono ?_; rintro e w3 ⟨rfl, rfl⟩))
    generalize (w1.alloc (.cells #[.slice none 0 0, .int .i64 0, .bool false] 45)).alloc (.cells #[.slice none 0 0, .int .i64 0, .bool false] 45) = w3 at *
    generalize w1.heap.size = ga at *
    go_wp2
    go_loopw [7, 8, 11, 12, 13, 35] (fun al ov _ _ _ i wr => ∃ (k : Nat) (hva : Value), k ≤ ps.length ∧ i = .int .i64 k ∧ al = strV (ps.take k).flatten ∧ Own1 wr w.heap.size 9 ov ((splitL [] (ps.take k).flatten).1.map strV) ∧
        Rdr wr w.heap.size ga hva (splitL [] (ps.take k).flatten).2 (splitL [] (ps.take k).flatten).1.length false ∧ Rdr wr w.heap.size (ga + 1) (.slice none 0 0) [] 0 false ∧ Ext w wr) (fun _ _ _ _ _ i _ => ps.length - (intOf i).toNat)
    case atStart => exact ⟨0, _, Nat.zero_le _, rfl, rfl, Own1.nil _ _ _, hRa, hRb, hx3⟩
    case round =>
      clear hRa hRb hx3
      obtain ⟨k, hva, hk, rfl, rfl, hO, hRa, hRb, hx⟩ := hrel
      by_cases hlt : k < ps.length
      · obtain ⟨g, o, rfl, pv, hcell, hpv⟩ := HC.out k hlt
        replace hcell := hx.cell hcell
        have hpw := Lib.hid (hpv.ext hx)
        have HPV := Lib.hid hpv
        have hfs := flat_snoc ps k hlt
        have hle := flat_take_le ps (k + 1)
        rw [hfs, List.length_append] at hle
        generalize ps.getD k [] = b at *
        have HFS := Lib.hid hfs
        clear hfs hpv
        generalize (ps.take k).flatten = f at *
        have hlen := splitL_len f []
        have hap := Lib.hid (splitL_append f [] b)
        simp only [List.length_nil, Nat.zero_add] at hlen
        have hlen2 := splitL_len b (splitL [] f).2
        generalize (splitL [] f).1 = L at *
        generalize (splitL [] f).2 = R at *
        have HO := Lib.hid hO
        have HRA := Lib.hid hRa
        have HRB := Lib.hid hRb
        have HX := Lib.hid hx
        have HLE := Lib.hid (⟨hle, hlen, hlen2⟩ : f.length + b.length ≤ ps.flatten.length ∧ L.length + R.length ≤ f.length ∧ _ ≤ R.length + b.length)
        have hbl : b.length ≤ 200000 := by omega
        have hszB := hx.size
        clear hO hRa hRb hx hle hlen hlen2
        go_upto_region 12 with (first
          | (at_builtin; refine wpList_appP rfl (.tmp 41) (.tmp 42) rfl pv b rfl rfl hpw.out (by omega) ?_; intro k4 c4 w4 hk4 hrd4 hc4 own4 hx4)
          | (go_at_call 9; refine (feed_rdr w.heap.size ga hva R b L.length ⟨k4, 0, none⟩ c4 w4 (HRA.out.ext hx4) hc4 hrd4 (by have := HRA.out.blk.lt; simp only; omega) (Nat.le_trans hszB hx4.size) (by have := HLE.out; omega) (by have := HLE.out; omega)).mono ?_; rintro e w5 ⟨lv, hv5, rfl, hL5, hR5, hob5, hK5⟩))
        have hR4 := HRA.out.ext hx4
        have hO4 := HO.out.ext hx4
        have hb4 := HRB.out.ext hx4
        have hO5 := Lib.hid (hO4.keeps hK5 (hR4.far hO4))
        have hRb5 := hb4.keeps hK5 (fun hf => by
          rcases hf with hf | hf
          · omega
          · exact hR4.own.apartB hb4.blk (by decide) hf) (fun i hi => absurd hi (nil_own i))
        have hx5 : Ext w w5 := (HX.out.trans hx4).keeps hK5 (fun i hi hf => by
          rcases hf with hf | hf
          · omega
          · have := (hR4.own.own i hf).1; omega)
        have hL5 := Lib.hid hL5
        clear hR4 hO4 hb4 hK5 own4 hrd4 hpw HO HRA HRB HX
        go_upto_region 15 with (at_builtin; refine wpList_appT rfl (.tmp 49) (.tmp 50) rfl w.heap.size u8 lv L (splitL R b).1 rfl rfl hO5.out w4.heap.size hL5.out (by have := HLE.out; omega) hx5.size ?_; intro v6 w6 own6 hK6 hob6)
        have hRa6 := hR5.keeps hK6 (fun hf => hO5.out.apartB hR5.blk (by decide) hf) (fun i hi hf => hO5.out.apart hR5.own (by decide) i hf hi)
        have hRb6 := hRb5.keeps hK6 (fun hf => hO5.out.apartB hRb5.blk (by decide) hf) (fun i hi => absurd hi (nil_own i))
        have hx6 : Ext w w6 := hx5.keeps hK6 (fun i hi hf => by have := (hO5.out.own i hf).1; omega)
        have hcv := conv_V w6 pv b (HPV.out.ext hx6)
        have hadd := fun (W : World) => add_strV f b (by have := HLE.out; omega) W
        clear hx4 hc4 hR5 hob5 hx5 hO5 hRb5 hL5 hK6 hob6
        go_wp2
        go_roundw
        case rel =>
          refine ⟨k + 1, hv5, by omega, by go_num, by rw [HFS.out], ?_, ?_, hRb6, hx6⟩
          · rw [HFS.out, hap.out]; exact own6
          · rw [HFS.out, hap.out, List.length_append]; exact hRa6
        case measure => simp [intOf]; omega
      · have hkn : ps.take k = ps := List.take_of_length_le (by omega)
        rw [hkn] at hO hRa ⊢
        clear hkn HC HN
        generalize ps.flatten = al at *
        obtain ⟨sa, rfl⟩ : ∃ sa : ByteArray, al = sa.data.toList := ⟨⟨al.toArray⟩, by simp⟩
        have hsn : sa.size ≤ 200000 := by simpa using hfl
        rw [← strV_of]
        go_upto_region 18 with fail
        obtain ⟨st, hst, hst1, hst7⟩ := step_of sz
        rw [hst]
        clear hst
        obtain ⟨B2, hB2⟩ : ∃ B2, B2 = wr.heap.size := ⟨_, rfl⟩
        have hA2 : ∀ i, hva.ownBlock = some i → i < B2 := fun i hi => by rw [hB2]; exact hRa.own.own_lt i hi
        have hO2 : ∀ i, u8.ownBlock = some i → i < B2 := fun i hi => by rw [hB2]; exact hO.own_lt i hi
        have hBB : w.heap.size ≤ B2 := by rw [hB2]; exact hx.size
        have hgb : ga + 1 < B2 := by rw [hB2]; exact hRb.blk.lt
        have hRb' : Rdr wr B2 (ga + 1) (.slice none 0 0) [] 0 false := ⟨hRb.blk, Own1.nil _ _ _⟩
        have hW2 : B2 ≤ wr.heap.size := by omega
        have hH2 := Lib.hid hA2
        have hHO := Lib.hid hO2
        clear hRb hB2 hA2 hO2
        go_wp2
        go_loopw [9, 15, 16, 17] (fun tv i _ _ wr => ∃ (k : Nat) (hvb : Value), i = .int .i64 k ∧ k ≤ sa.size + 7 ∧ Own1 wr B2 9 tv ((splitL [] (sa.data.toList.take k)).1.map strV) ∧ Rdr wr B2 (ga + 1) hvb (splitL [] (sa.data.toList.take k)).2 (splitL [] (sa.data.toList.take k)).1.length false ∧
            Own1 wr w.heap.size 9 u8 ((splitL [] sa.data.toList).1.map strV) ∧ Rdr wr w.heap.size ga hva (splitL [] sa.data.toList).2 (splitL [] sa.data.toList).1.length false ∧ Ext w wr ∧ B2 ≤ wr.heap.size) (fun _ i _ _ _ => sa.size + 7 - (intOf i).toNat)
        case atStart => exact ⟨0, _, rfl, Nat.zero_le _, Own1.nil _ _ _, hRb', hO, hRa, hx, hW2⟩
        case round =>
          clear hRb' hO hRa hx hW2
          obtain ⟨k, hvb, rfl, hk, hT, hRb, hO, hRa, hx, hW2⟩ := hrel
          have kcb := conv_bytes
          by_cases hlt : k < sa.size
          · obtain ⟨m, hm⟩ : ∃ m, m = min sa.size (k + st) := ⟨_, rfl⟩
            have q1 : IntKind.i64.wrap ((k : Int) + (st : Int)) = ((k + st : Nat) : Int) := by rw [IntKind.wrap_i64]; omega
            have hmm : (min (sa.size : Int) ((k : Int) + (st : Int))).toNat = m := by omega
            have hd := Lib.extract_data sa k m
            obtain ⟨sx, hex⟩ : ∃ sx, sa.extract k m = sx := ⟨_, rfl⟩
            rw [hex] at hd
            have hrd := byW_rd wr sx
            rw [hd] at hrd
            have hsz : sx.size = ((sa.data.toList.drop k).take (m - k)).length := by rw [← hd]; rfl
            have htp := take_piece sa.data.toList k m (by omega)
            have hbl : ((sa.data.toList.drop k).take (m - k)).length ≤ 200000 := by simp; omega
            generalize (sa.data.toList.drop k).take (m - k) = bp at *
            have hap := splitL_append (sa.data.toList.take k) [] bp
            rw [← htp] at hap
            have hln := splitL_len (sa.data.toList.take k) []
            have hln2 : (sa.data.toList.take k).length ≤ 200000 := by simp; omega
            have hln3 := splitL_len bp (splitL [] (sa.data.toList.take k)).2
            have hnext : splitL [] (sa.data.toList.take (k + st)) = splitL [] (sa.data.toList.take m) := by
              by_cases h5 : k + st ≤ sa.size
              · rw [show m = k + st by omega]
              · rw [List.take_of_length_le (show sa.data.toList.length ≤ k + st by simp; omega), List.take_of_length_le (show sa.data.toList.length ≤ m by simp; omega)]
            rw [hap] at hnext
            simp only [List.length_nil, Nat.zero_add] at hln
            generalize (splitL [] (sa.data.toList.take k)).1 = L at *
            generalize (splitL [] (sa.data.toList.take k)).2 = R at *
            have HNX := Lib.hid hnext
            have HLN := Lib.hid (⟨hln, hln2, hln3⟩ : _ ∧ _ ∧ _)
            have HMK := Lib.hid (⟨by omega, by omega⟩ : k ≤ m ∧ m ≤ sa.size)
            clear hap hln hln2 hln3 htp hd hnext hm
            have hrd := Lib.hid hrd
            have hWb := byW_ext wr sx
            have hcb : bp.length ≤ byC wr sx := by rw [← hsz]; exact byC_ge wr sx
            have hT4 := hT.ext hWb
            have hb4 := hRb.ext hWb
            have hO4 := hO.ext hWb
            have ha4 := hRa.ext hWb
            go_upto_region 22 with (go_at_call 9; refine (feed_rdr B2 (ga + 1) hvb R bp L.length ⟨wr.heap.size, 0, none⟩ (byC wr sx) (byW wr sx) hb4 hcb hrd.out (by simp only; omega) (Nat.le_trans hW2 hWb.size) (by have := HLN.out; omega) (by have := HLN.out; omega)).mono ?_; rintro e w5 ⟨lv, hv5, rfl, hL5, hR5, hob5, hK5⟩)
            have hT5 := Lib.hid (hT4.keeps hK5 (hb4.far hT4))
            have hO5 := hO4.keeps hK5 (hb4.far hO4)
            have ha5 := ha4.keeps hK5 (fun hf => by
              rcases hf with hf | hf
              · omega
              · have := (hb4.own.own ga hf).1; omega) (fun i hi hf => by
              rcases hf with hf | hf
              · subst hf; exact ha4.own.apartB hb4.blk (by decide) hi
              · have h1 := (hb4.own.own i hf).1
                have h2 := hH2.out i hi
                omega)
            have hx5 : Ext w w5 := (hx.trans hWb).keeps hK5 (fun i hi hf => by
              rcases hf with hf | hf
              · omega
              · have := (hb4.own.own i hf).1; omega)
            have hs5 : B2 ≤ w5.heap.size := Nat.le_trans (Nat.le_trans hW2 hWb.size) hK5.size
            have hL5 := Lib.hid hL5
            clear hT hT4 hb4 hO4 ha4 hO hRa hRb hx hob5 hK5 hWb hcb hmm hex hsz kcb
            go_upto_region 20 with (at_builtin; refine wpList_appT rfl (.tmp 86) (.tmp 87) rfl B2 u9 lv L (splitL R bp).1 rfl rfl hT5.out (byW wr sx).heap.size hL5.out (by have := HLN.out; omega) hs5 ?_; intro v6 w6 own6 hK6 hob6)
            have hb6 := hR5.keeps hK6 (fun hf => hT5.out.apartB hR5.blk (by decide) hf) (fun i hi hf => hT5.out.apart hR5.own (by decide) i hf hi)
            have ha6 := ha5.keeps hK6 (fun hf => hT5.out.apartB ha5.blk (by decide) hf) (fun i hi hf => hT5.out.apart ha5.own (by decide) i hf hi)
            have hO6 := hO5.keeps hK6 (fun i hi hf => by
              have h1 := (hT5.out.own i hf).1
              have h2 := hHO.out i hi
              omega)
            have hx6 : Ext w w6 := hx5.keeps hK6 (fun i hi hf => by have := (hT5.out.own i hf).1; omega)
            have hs6 : B2 ≤ w6.heap.size := Nat.le_trans hs5 hK6.size
            clear hR5 ha5 hO5 hx5 hs5 hT5 hL5 hK6 hob6
            go_wp2
            go_roundw
            case rel =>
              refine ⟨k + st, hv5, by go_num, by omega, ?_, ?_, hO6, ha6, hx6, hs6⟩
              · rw [HNX.out]; exact own6
              · rw [HNX.out, List.length_append]; exact hb6
            case measure => simp [intOf]; omega
          · have hkn : sa.data.toList.take k = sa.data.toList := List.take_of_length_le (by simp; omega)
            rw [hkn] at hT hRb
            clear hkn kcb
            have hjs := joined_split sa.data.toList []
            have hlen := splitL_len sa.data.toList []
            rw [List.nil_append] at hjs
            simp only [List.length_nil, Nat.zero_add] at hlen
            generalize (splitL [] sa.data.toList).1 = Ls at *
            generalize (splitL [] sa.data.toList).2 = Rs at *
            have hE1 := Lib.hid (end_rdr w.heap.size ga hva Rs Ls.length wr hRa (by omega))
            go_upto_region 26 with (go_at_call 10; refine hE1.out.mono ?_; rintro e w4 ⟨hv4, rfl, hR4, hK4⟩)
            have hT4 := hT.keeps hK4 (fun i hi hf => by subst hf; exact hT.apartB hRa.blk (by decide) hi)
            have hO4 := hO.keeps hK4 (fun i hi hf => by subst hf; exact hO.apartB hRa.blk (by decide) hi)
            have hb4 := hRb.keeps hK4 (fun hf => by omega) (fun i hi hf => by have := (hRb.own.own i hi).1; omega)
            have hx4 : Ext w w4 := hx.keeps hK4 (fun i hi hf => by omega)
            clear hE1 hT hO hRa hRb hx hK4 hR4
            have hE2 := Lib.hid (end_rdr B2 (ga + 1) hvb Rs Ls.length w4 hb4 (by omega))
            go_upto_region 27 with (go_at_call 10; refine hE2.out.mono ?_; rintro e w5 ⟨hv5, rfl, hR5, hK5⟩)
            have hT5 := RdT.of_own (hT4.keeps hK5 (fun i hi hf => by subst hf; exact hT4.apartB hb4.blk (by decide) hi))
            have hO5 := RdT.of_own (hO4.keeps hK5 (fun i hi hf => by subst hf; exact hO4.apartB hb4.blk (by decide) hi))
            have hx5 : Ext w w5 := hx4.keeps hK5 (fun i hi hf => by omega)
            clear hE2 hT4 hO4 hb4 hx4 hK5 hR5
            have hSM := Lib.hid (same_any Ls u8 u9 w5 hO5 hT5 (by omega))
            have HO5 := Lib.hid hO5
            have hHO' := hHO
            clear hHO hHO' hT5
            obtain ⟨A8, c8, rfl, hcell8⟩ := hO5
            have HC8 := Lib.hid hcell8
            clear hcell8
            have hjl := joinedL_len Ls Rs sa.data.toList hjs
            go_wp2
            go_loopw [24, 26, 103] (fun jv _ i wr => ∃ k : Nat, k ≤ Ls.length ∧ jv = strV (joinedL (Ls.take k)) ∧ i = .int .i64 k ∧ wr = w5) (fun _ _ i _ => Ls.length - (intOf i).toNat)
            case atStart => exact ⟨0, Nat.zero_le _, rfl, rfl, rfl⟩
            case round =>
              obtain ⟨k, hk, rfl, rfl, rfl⟩ := hrel
              by_cases hlt : k < Ls.length
              · obtain ⟨g, o, rfl, h1⟩ := HC8.out k hlt
                have hst := Lib.hid (joinedL_step Ls k hlt)
                have hl2 := joinedL_take_len Ls (k + 1)
                rw [hst.out] at hl2
                generalize joinedL (Ls.take k) = j at *
                generalize Ls.getD k [] = x at *
                simp only [List.length_append, List.length_cons, List.length_nil] at hl2
                have hadd1 : ∀ W, (binOp .add 9 (strV x) (.string ⟨#[10]⟩)).run Tryd.prog W = .ok (strV (x ++ [10])) W := fun W => add_strV x [10] (by simp; omega) W
                have hadd2 := fun W => add_strV j (x ++ [10]) (by simp; omega) W
                generalize x ++ [10] = y at *
                go_wp2
                go_roundw
                case rel => exact ⟨k + 1, by omega, by rw [hst.out], by go_num, (by first | rfl | trivial)⟩
                case measure => simp [intOf]; omega
              · have hkl : Ls.take k = Ls := List.take_of_length_le (by omega)
                rw [hkl]
                clear hkl
                have hal : (⟨(joinedL Ls ++ Rs).toArray⟩ : ByteArray) = sa := by
                  rw [hjs]
                have hadd := fun W => add_str (joinedL Ls) Rs (by have := congrArg List.length hjs; simp at this; omega) W
                rw [show strV (joinedL Ls ++ Rs) = .string sa from congrArg Value.string hal] at hadd
                have hemp := empty_endB Rs
                unfold strV
                generalize (⟨Rs.toArray⟩ : ByteArray) = sr at *
                generalize (⟨(joinedL Ls).toArray⟩ : ByteArray) = sj at *
                generalize endB Rs = eb at *
                clear hal hjs hjl hlen
                go_wp2_with (go_at_call 11; refine hSM.out.mono ?_; rintro e w6 ⟨rfl, hx6⟩)
                go_ret
                exact ⟨rfl, hx5.trans hx6⟩

theorem linesPieces_walk (ps : List (List UInt8)) (v : Value) (sz : Int) (w : World) (hv : RdP w v ps) (hb : ∀ k, (ps.getD k []).length ≤ 140737488351232) (hl : ps.length ≤ 9223372036854775807) :
    Calls Tryd.prog 3 #[v, .int .i64 sz] w fun r w' => r = .returned (.bool true) ∧ Ext w w' := by
  obtain ⟨A, c, rfl, hc⟩ := hv
  exact lPieces_core ps A c sz w hc hb hl

end Go.Proofs.YtfgocamajfipmaaDoor
