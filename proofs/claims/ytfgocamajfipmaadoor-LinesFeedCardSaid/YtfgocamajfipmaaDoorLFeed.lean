/- The law LinesFeed as a walk. Conditions: the pieces' lengths are below a process's memory; where the program's error values lie. -/
import Derived.Test.YtfgocamajfipmaaDoorLApart
import Derived.Test.YtfgocamajfipmaaDoorLClosed
namespace Go.Proofs.YtfgocamajfipmaaDoor
open Go.RowKit

set_option maxRecDepth 100000 in
set_option maxHeartbeats 8000000 in
theorem lFeed_core (ps : List (List UInt8)) (A : Option Addr) (cap : Nat) (E : Nat → Addr) (w : World) (hE : ErrsAt w E)
    (hc : ∀ j, j < ps.length → ∃ g o, A = some ⟨g, o, none⟩ ∧ ∃ pv, w.cell? ⟨g, o + j, none⟩ = some pv ∧ RdV w pv (ps.getD j []))
    (hpl : ps.length ≤ 2000) (hfl : ps.flatten.length ≤ 200000)
    (HM : Hid (∀ W, Ext w W → Calls Tryd.prog 7 #[.slice A ps.length cap] W fun r w' => r = .returned (.bool false) ∧ W = w')) :
    Calls Tryd.prog 5 #[.slice A ps.length cap] w fun r w' => r = .returned (.bool true) ∧ Ext w w' := by
  have HL := Lib.hid (fun W => lLives_any W)
  have HC := Lib.hid hc
  have HE := Lib.hid hE
  have HN := Lib.hid (fun W => new_any W)
  clear hc hE
  go_enter Tryd.func5, Tryd.ntmps5
  go_upto_region 5 with (first
    | (go_at_call 6; refine (HL.out _).mono ?_; rintro e w1 ⟨rfl, hx1⟩)
    | (go_at_call 7; refine (HM.out _ hx1).mono ?_; rintro e w2 ⟨rfl, rfl⟩))
  clear HL HM
  have hx3 := hx1.alloc (.cells #[.slice none 0 0, .int .i64 0, .bool false] 45)
  have hR := Rdr.new w1 w.heap.size
  have hga := hx1.size
  go_upto_region 7 with (first
    | (go_at_call 8; refine (HN.out _).mono ?_; rintro e w3 ⟨rfl, rfl⟩))
  clear HN
  generalize w1.alloc (.cells #[.slice none 0 0, .int .i64 0, .bool false] 45) = w3 at *
  generalize w1.heap.size = ga at *
  go_wp2
  go_loopw [4, 5, 7, 8, 9, 10, 11, 12, 13, 14, 15, 33] (fun al tl _ _ _ _ _ _ _ _ _ i wr => ∃ (k : Nat) (hva : Value), k ≤ ps.length ∧ i = .int .i64 k ∧ al = strV (upF ps k) ∧ tl = .int .i64 ((lnL ps k).length : Nat) ∧
      Rdr wr w.heap.size ga hva (lnR ps k) (lnL ps k).length false ∧ Ext w wr) (fun _ _ _ _ _ _ _ _ _ _ _ i _ => ps.length - (intOf i).toNat)
  case atStart => exact ⟨0, _, Nat.zero_le _, rfl, rfl, rfl, hR, hx3⟩
  case round =>
    clear hR hx3
    obtain ⟨k, hva, hk, rfl, rfl, rfl, hR, hx⟩ := hrel
    by_cases hp : k < ps.length
    · have d1 : (k : Int) < (ps.length : Int) := by omega
      have hB := fun W (h : Ext wr W) => Nat.le_trans hx.size h.size
      have hpb := piece_le ps k
      have hlb := ln_len ps k
      obtain ⟨g, o, rfl, pv, hcell0, hpv⟩ := HC.out k hp
      have hcell := hx.cell hcell0
      have HPV := Lib.hid hpv
      have hsL := Lib.hid (lnL_step ps k hp)
      have hsR := Lib.hid (lnR_step ps k hp)
      have hsF := Lib.hid (upF_step ps k hp)
      have hup := upF_le ps k
      have hsp : splitL [] (lnR ps k ++ ps.getD k []) = splitL (lnR ps k) (ps.getD k []) := split_rest _ _
      have hs1 : (splitL [] (upF ps k)).2 = lnR ps k := rfl
      obtain ⟨PA, pc, hps⟩ := hpv.shape
      clear hpv hcell0
      generalize ps.getD k [] = b at *
      generalize lnL ps k = L at *
      generalize lnR ps k = R at *
      generalize upF ps k = f at *
      have hls := splitL_len b R
      have HH := Lib.hid (⟨by omega, by omega, by omega, by omega, by omega, by omega⟩ : R.length + b.length ≤ 1000000000 ∧ L.length + b.length ≤ 1000000000 ∧ (splitL R b).1.length ≤ 400000 ∧ b.length ≤ 200000 ∧ f.length ≤ 200000 ∧ R.length ≤ 200000)
      have HSP := Lib.hid hsp
      have HS1 := Lib.hid hs1
      have hbn : b.length ≤ 200000 := by omega
      have hLn : L.length ≤ 200000 := by omega
      have HR := Lib.hid hR
      clear hpb hlb hls hR hsp hs1 hup
      subst hps
      go_upto_region 11 with (first
        | (at_builtin; refine wpList_appP rfl (.tmp 37) (.tmp 38) rfl (.slice PA b.length pc) b rfl rfl (HPV.out.ext hx) (by omega) ?_; intro k4 c4 w4 hk4 hrd4 hc4 own4 hx4)
        | (at_builtin; refine wpList_appK rfl (.tmp 39) (.tmp 40) 28 rfl wr.heap.size 5 (.int .u8 0) 1 Tryd.underlying28 info_u8 rfl (.slice (some ⟨k4, 0, none⟩) b.length c4) (uC b) (uC [10]) rfl (own4.ext ((Ext.refl w4).alloc _)) (.inr ⟨⟨w4.heap.size, 0, none⟩, 1, rfl, cell_one_new _ _ _⟩) (uC_one _) (by rw [uC_len]; simp [uC]; omega) (by rw [uC_len]; simp [uC]; omega) (by have := hx4.size; simp; omega) ?_; intro v5 w5 own5 hg5 hb5 hn5))
      have hx5 : Ext wr w5 := Ext.keeps hx4 (((Keeps.refl (fun k => k = k4) w4).alloc _).grown hg5 (fun i hi => .inr (by simp only [Value.ownBlock, Option.some.injEq] at hi; exact hi.symm))) (fun i hi hf => by omega)
      rw [uC_app] at own5
      have hlen : (uC (b ++ [10])).length = b.length + 1 := by rw [uC_len]; simp
      rcases own5.slice with ⟨_, h0⟩ | ⟨k5, c5, cur, rfl, hk5, hblk5, hc5, hm5, hs5⟩
      · rw [h0] at hlen; simp at hlen
      rw [hlen] at own5 hc5 hb5 hn5 ⊢
      have hrd5 := RdA.of_own own5
      have hrdb := hrd5.take
      have HRD5 := Lib.hid hrd5
      have HRDB := Lib.hid hrdb
      have HOWN := Lib.hid own5
      have hk5l := hblk5.lt
      have S3 : ∀ W, (Instr.slice 28 (.slice (some ⟨k5, 0, none⟩) (b.length + 1) c5) none (some (.int .i64 (b.length : Int))) none).run Tryd.prog W = .ok (.slice (some ⟨k5, 0, none⟩) b.length c5) W := fun W => slice_to W _ (b.length + 1) c5 b.length (by omega) hc5
      have hR5 := HR.out.ext hx5
      have hgl := HR.out.blk.lt
      have hFA := Lib.hid (feed_rdr w.heap.size ga hva R b L.length ⟨k5, 0, none⟩ c5 w5 hR5 (by omega) HRDB.out (by simp only; omega) (hB _ hx5) HH.out.1 HH.out.2.1)
      clear hrd4 own4 hx4 hc4 hk4 own5 hg5 hb5 hn5 hrd5 hrdb hlen
      go_upto_region 12 with (go_at_call 9; refine hFA.out.mono ?_; rintro e w6 ⟨lv, hv6, rfl, hL6, hR6, hob6, hK6⟩)
      have hnF : ¬ feedF ga hva k5 := fun hf => by
        rcases hf with hf | hf
        · omega
        · have := HR.out.own.own_lt k5 hf; omega
      have hrd6 := HRDB.out.keeps hK6 (fun _ => hnF)
      have hall6 := HRD5.out.keeps hK6 (fun _ => hnF)
      have hblk6 := hblk5.keeps hK6 hnF
      have hx6 := Ext.fed hR5 (hx.trans hx5) (Nat.le_refl _) hga hK6
      have c10 : w6.cell? ⟨k5, b.length, none⟩ = some (.int .u8 10) := by
        have := hall6 b.length (by simp)
        rw [List.getD_eq_getElem?_getD, List.getElem?_append_right (Nat.le_refl _), Nat.sub_self] at this
        have ea : (⟨k5, 0, none⟩ : Addr).add b.length = ⟨k5, b.length, none⟩ := by unfold Addr.add; split <;> simp_all
        rw [ea] at this
        exact this
      have hc10 := cell_plus c10
      have s1 : ∀ y : Ex w6, (convert 28 9 (.slice (some ⟨k5, 0, none⟩) b.length c5)).run Tryd.prog (plus w6 y) = .ok (strV b) (plus w6 y) := fun y => conv_at _ _ _ b (hrd6.ext (plus_ext w6 y))
      have s2 : ∀ y : Ex w6, (convert 28 9 (.slice PA b.length pc)).run Tryd.prog (plus w6 y) = .ok (strV b) (plus w6 y) := fun y => conv_V _ _ b (HPV.out.ext (hx6.trans (plus_ext w6 y)))
      have hsb : strV b = .string ⟨b.toArray⟩ := rfl
      rw [hsb] at s1 s2
      generalize (⟨b.toArray⟩ : ByteArray) = sb at *
      have HSB := Lib.hid hsb
      have d2 : (0 : Int) ≤ (b.length : Int) := by omega
      have d3 : (b.length : Int) < (b.length : Int) + 1 := by omega
      clear hsb hall6 hrd6 c10 hcell hFA
      refine wp_region_plus (by kernel_rfl) (by kernel_rfl) ?_
      repeat (go_big_quiet_step (fail))
      refine wpQuiet_nil ?_
      intro y
      have hap : ∀ i, hv6.ownBlock = some i → i ≠ k5 := fun i hi e => by
        rcases hob6 with h | h
        · have := HR.out.own.own_lt i (h ▸ hi); omega
        · have := h i hi; omega
      have hkw : w.heap.size ≤ k5 := Nat.le_trans hx.size hk5
      have hR7 := hR6.ext (plus_ext w6 y)
      have hL7 := hL6.ext (plus_ext w6 y)
      have hblk7 := hblk6.ext (plus_ext w6 y)
      have hx7 := hx6.trans (plus_ext w6 y)
      have hgk : ga ≠ k5 := by omega
      clear s1 s2 hc10 hR6 hL6 hblk6 hblk5 hR5 hx5 hx6 hob6 hK6 HR hx HRD5 HRDB HOWN S3 hnF
      generalize plus w6 y = w7 at *
      go_wp2
      go_loopw [11, 73] (fun _ i wx => ∃ j : Nat, j ≤ b.length + 1 ∧ i = .int .i64 j ∧ (∃ cu, Blk wx k5 5 cu ∧ cu.size = c5) ∧ Keeps (fun z => z = k5) w7 wx) (fun _ i _ => b.length + 1 - (intOf i).toNat)
      case atStart => exact ⟨0, Nat.zero_le _, rfl, ⟨cur, hblk7, hs5⟩, Keeps.refl _ _⟩
      case round =>
        obtain ⟨j, hj, rfl, ⟨cu, hcu, hcs⟩, hK⟩ := hrel
        by_cases hlt : j < b.length + 1
        · have hcj := hcu.cell j
          rw [Array.getElem?_eq_getElem (by omega)] at hcj
          have hfj := hcu.frozen j
          have d6 : (j : Int) < (b.length : Int) + 1 := by omega
          generalize cu[j] = cx at hcj
          go_wp2
          go_roundw
          case rel => exact ⟨j + 1, by omega, by go_num, ⟨_, hcu.set j _, by simp [hcs]⟩, hK.setCell (.inr rfl) _⟩
          case measure => simp [intOf]; omega
        · have hR8 := hR7.keeps hK (fun e => hgk e) (fun i hi e => hap i hi e)
          have hL8 := hL7.keeps hK (fun i hi e => by subst e; exact hL7.apartB hblk7 (by decide) hi)
          have hx8 : Ext w wr := hx7.keeps hK (fun i hi e => by omega)
          have hRf := Lib.hid (fun W => rSplit_V f W (by have := HH.out; omega))
          have hRb := Lib.hid (fun W => rSplit_V (R ++ b) W (by have := HH.out; simp; omega))
          simp only [HS1.out] at hRf
          simp only [HSP.out] at hRb
          have hadd1 : ∀ W, (binOp .add 9 (strV R) (.string sb)).run Tryd.prog W = .ok (strV (R ++ b)) W := fun W => by rw [← HSB.out]; exact add_strV R b (by have := HH.out; omega) W
          have hadd2 : ∀ W, (binOp .add 9 (strV f) (.string sb)).run Tryd.prog W = .ok (strV (f ++ b)) W := fun W => by rw [← HSB.out]; exact add_strV f b (by have := HH.out; omega) W
          have hcw : ∀ W, Ext w W → (convert 28 9 (.slice PA b.length pc)).run Tryd.prog W = .ok (.string sb) W := fun W hW => by rw [← HSB.out]; exact conv_V _ _ b (HPV.out.ext hW)
          have HCW := Lib.hid hcw
          have hsr : strV (splitL R b).2 = .string ⟨(splitL R b).2.toArray⟩ := rfl
          have hsz : (⟨(splitL R b).2.toArray⟩ : ByteArray).size = (splitL R b).2.length := rfl
          generalize hsre : (⟨(splitL R b).2.toArray⟩ : ByteArray) = sr at hsr hsz
          simp only [hsr] at hRb
          have HHD := Lib.hid (fun W h1 h2 => held_any w.heap.size ga hv6 (splitL R b).2 (L.length + (splitL R b).1.length) false W h1 h2)
          have HCT := Lib.hid (fun W h => count_any ga hv6 (L.length + (splitL R b).1.length) false W h)
          have hln := HH.out.2.2.1
          have hsn := Lib.hid (fun va vb W h1 h2 => same_any (splitL R b).1 va vb W h1 h2 (by omega))
          generalize (splitL R b).1 = ls at *
          generalize (splitL R b).2 = R2 at *
          have HR8 := Lib.hid hR8
          have HL8 := Lib.hid hL8
          have q4 : IntKind.i64.wrap ((L.length : Int) + (ls.length : Int)) = (L.length : Int) + (ls.length : Int) := by rw [IntKind.wrap_i64]; omega
          clear hR7 hL7 hx7 hK hR8 hL8 hblk7 hcu hcs hgk hkw hcw hsr hsre
          go_upto_region 20 with (go_at_call 13; refine (hRf.out _).mono ?_; rintro e w9 ⟨lv9, rfl, _, hx9⟩)
          have hcw9 := HCW.out _ (hx8.trans hx9)
          go_upto_region 21 with (go_at_call 13; refine (hRb.out _).mono ?_; rintro e w10 ⟨lv10, rfl, hL10, hx10⟩)
          have hcw10 := HCW.out _ ((hx8.trans hx9).trans hx10)
          have hT8 := Lib.hid (RdT.of_own ((HL8.out.ext hx9).ext hx10))
          have hT10 := Lib.hid (RdT.of_own hL10)
          have hR10 := Lib.hid ((HR8.out.ext hx9).ext hx10)
          obtain ⟨A10, c10, hv10, _⟩ := hL10.shape
          rw [List.length_map] at hv10
          subst hv10
          have hx11 := (hx8.trans hx9).trans hx10
          clear hL10 hx8 hx9 hx10 HL8 HR8
          go_wp2_with (first
            | (go_at_call 11; refine (hsn.out _ _ _ hT8.out hT10.out).mono ?_; rintro e w12 ⟨rfl, hx12⟩)
            | (go_at_call 14; refine (HHD.out _ (hR10.out.blk.ext hx12) (hR10.out.own.ext hx12)).mono ?_; rintro e w13 ⟨rfl, rfl⟩)
            | (go_at_call 12; refine (HCT.out _ (hR10.out.blk.ext hx12)).mono ?_; rintro e w14 ⟨rfl, rfl⟩))
          go_roundw
          case rel => exact ⟨k + 1, hv6, by omega, by go_num, by rw [hsF.out], by rw [hsL.out, List.length_append]; simp, by rw [hsR.out, hsL.out, List.length_append]; exact hR10.out.ext hx12, hx11.trans hx12⟩
          case measure => simp [intOf]; omega
    · have hnp := ln_len ps k
      have hup := upF_le ps k
      have hs1 : (splitL [] (upF ps k)).2 = lnR ps k := rfl
      have hal : (allL (upF ps k)).length = (lnL ps k).length + endN (lnR ps k) := allL_len (upF ps k)
      clear HC
      generalize lnL ps k = L at *
      generalize lnR ps k = R at *
      generalize upF ps k = f at *
      have hEb := Lib.hid (end_rdr w.heap.size ga hva _ _ wr hR (by omega))
      have hRf := Lib.hid (fun W => rSplit_V f W (by omega))
      simp only [hs1] at hRf
      have hLn := Lib.hid (fun W => rLines_N f _ hal W (by omega))
      have hemp := empty_end_r R
      have hsr : strV R = .string ⟨R.toArray⟩ := rfl
      generalize (⟨R.toArray⟩ : ByteArray) = sr at *
      simp only [hsr] at hRf hEb
      clear hs1 hal hsr
      go_upto_region 27 with (go_at_call 10; refine hEb.out.mono ?_; rintro e w4 ⟨hv4, rfl, hR4, hK4⟩)
      have hx4 := Ext.ended hx (by omega) hK4
      clear hEb hR hx hK4
      generalize hn : L.length + endN R = n at *
      generalize endB R = eb at *
      have hnn : n ≤ 400000 := by
        have : endN R ≤ 1 := by unfold endN; split <;> omega
        omega
      have HR4 := Lib.hid hR4
      have HHD := Lib.hid (fun W h1 h2 => held_any w.heap.size ga hv4 [] n true W h1 h2)
      have HCT := Lib.hid (fun W h => count_any ga hv4 n true W h)
      clear hR4 hn hnp hup
      go_upto_region 30 with (first
        | (go_at_call 13; refine (hRf.out _).mono ?_; rintro e w5 ⟨lv5, rfl, _, hx5⟩)
        | (go_at_call 14; refine (HHD.out _ (HR4.out.blk.ext hx5) (HR4.out.own.ext hx5)).mono ?_; rintro e w6 ⟨rfl, rfl⟩)
        | (go_at_call 12; refine (HCT.out _ (HR4.out.blk.ext hx5)).mono ?_; rintro e w7 ⟨rfl, rfl⟩)
        | (go_at_call 15; refine (hLn.out _).mono ?_; rintro e w8 ⟨A8, c8, rfl, hx8⟩))
      have hR8 := (HR4.out.ext hx5).ext hx8
      have hx9 := (hx4.trans hx5).trans hx8
      clear hx4 hx5 hx8 HR4 HHD hRf
      have kc := fun (w : World) (C : Array Value) (n c : Nat) => Lib.run_convert_bytes_const (P := Tryd.prog) w 28 5 C n c Tryd.underlying28 Tryd.underlying5
      have hxb : Ext w8 (w8.alloc (.cells #[.int .u8 120, .int .u8 10] 5 (2, 3))) := (Ext.refl w8).alloc _
      have hRb := hR8.ext hxb
      have hxx := hx9.trans hxb
      have hFC := Lib.hid (fun bv => feed_closed E w.heap.size ga hv4 [] n bv _ hRb (HE.out.ext hxx))
      go_upto_region 31 with (go_at_call 9; refine (hFC.out _).mono ?_; rintro e w10 ⟨rfl, hx10⟩)
      have hR10 := hRb.ext hx10
      have hx11 := hxx.trans hx10
      clear hxb hRb hxx hFC hx10 kc hR8 hx9
      have hEC := Lib.hid (end_closed E w.heap.size ga hv4 [] n w10 hR10 (HE.out.ext hx11))
      go_upto_region 32 with (go_at_call 10; refine hEC.out.mono ?_; rintro e w12 ⟨rfl, hx12⟩)
      have hR12 := Lib.hid (hR10.ext hx12)
      have hx13 := hx11.trans hx12
      have HEE := Lib.hid (HE.out.ext hx13)
      clear hEC hR10 hx11 hx12
      have HNU := Lib.hid (fun W h => num_closed E W h)
      go_wp2_with (first
        | (go_at_call 16; refine (HNU.out _ HEE.out).mono ?_; rintro e w14 ⟨rfl, hx14⟩; have HEF := Lib.hid (HEE.out.ext hx14); clear HEE)
        | (go_at_call 16; refine (HNU.out _ HEF.out).mono ?_; rintro e w15 ⟨rfl, hx15⟩)
        | (go_at_call 12; refine (HCT.out _ ((hR12.out.ext hx14).ext hx15).blk).mono ?_; rintro e w16 ⟨rfl, rfl⟩)
        | (go_at_call 15; refine (hLn.out _).mono ?_; rintro e w17 ⟨A17, c17, rfl, hx17⟩))
      go_ret
      exact ⟨rfl, ((hx13.trans hx14).trans hx15).trans hx17⟩

set_option maxRecDepth 100000 in
theorem linesFeed_walk (ps : List (List UInt8)) (v : Value) (w : World) (hv : RdP w v ps) (hb : ∀ k, (ps.getD k []).length ≤ 140737488351232) (hl : ps.length ≤ 9223372036854775807) (hE : ∃ E, ErrsAt w E) :
    Calls Tryd.prog 5 #[v] w fun r w' => r = .returned (.bool true) ∧ Ext w w' := by
  obtain ⟨E, hE⟩ := hE
  have HL := Lib.hid (fun W => lLives_any W)
  have HM := Lib.hid (fun W (hW : Ext w W) => much_any ps v W (hv.ext hW) hb hl)
  obtain ⟨A, c, rfl, hc⟩ := hv
  have hmn := much_no ps
  cases hm : muchB ps with
  | true =>
    rw [hm] at HM
    clear hmn hm hc hb hE
    go_enter Tryd.func5, Tryd.ntmps5
    go_wp2_with (first
      | (go_at_call 6; refine (HL.out _).mono ?_; rintro e w1 ⟨rfl, hx1⟩)
      | (go_at_call 7; refine (HM.out _ hx1).mono ?_; rintro e w2 ⟨rfl, rfl⟩))
    go_ret
    exact ⟨rfl, hx1⟩
  | false =>
    obtain ⟨hpl, hfl⟩ := hmn hm
    rw [hm] at HM
    exact lFeed_core ps A c E w hE hc hpl hfl HM

end Go.Proofs.YtfgocamajfipmaaDoor
