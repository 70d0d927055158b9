/- The law LinesApart as a walk. Conditions: the pieces' lengths are below a process's memory. -/
import Derived.Test.YtfgocamajfipmaaDoorLAid
namespace Go.Proofs.YtfgocamajfipmaaDoor
open Go.RowKit

/-- Two values do not lie in one block. -/
def Apt (v v' : Value) : Prop := ∀ i, v.ownBlock = some i → v'.ownBlock ≠ some i
theorem Apt.symm {v v' : Value} (h : Apt v v') : Apt v' v := fun i h1 h2 => h i h2 h1
theorem Apt.nil (v : Value) : Apt (.slice none 0 0) v := fun i h => by cases h
section
variable {w w' : World} {B B' g g' : Nat} {hv hv' : Value} {held held' : List UInt8} {cnt cnt' : Nat} {e e' : Bool}
/-- Another reader than the one that is fed stays. -/
theorem Rdr.other (X : Rdr w B g hv held cnt e) (Y : Rdr w B' g' hv' held' cnt' e') (hne : g' ≠ g) (ap : Apt hv hv') (K : Keeps (feedF g hv) w w') : Rdr w' B' g' hv' held' cnt' e' :=
  Y.keeps K (fun hf => by
    rcases hf with hf | hf
    · exact hne hf
    · exact X.own.apartB Y.blk (by decide) hf) (fun i hi hf => by
    rcases hf with hf | hf
    · subst hf; exact Y.own.apartB X.blk (by decide) hi
    · exact ap i hf hi)
theorem Apt.fed {hv5 : Value} (Y : Rdr w B' g' hv' held' cnt' e') (ap : Apt hv hv') (ho : hv5.ownBlock = hv.ownBlock ∨ ∀ k, hv5.ownBlock = some k → w.heap.size ≤ k) : Apt hv5 hv' := fun i h1 h2 => by
  rcases ho with h | h
  · exact ap i (h ▸ h1) h2
  · have := h i h1
    have := Y.own.own_lt i h2
    omega
theorem Ext.fed {w0 : World} (X : Rdr w B g hv held cnt e) (hx : Ext w0 w) (hB : w0.heap.size ≤ B) (hg : w0.heap.size ≤ g) (K : Keeps (feedF g hv) w w') : Ext w0 w' :=
  hx.keeps K (fun i hi hf => by
    rcases hf with hf | hf
    · omega
    · have := (X.own.own i hf).1; omega)
/-- Another reader than the one that is ended stays. -/
theorem Rdr.otherEnd (X : Rdr w B g hv held cnt e) (Y : Rdr w B' g' hv' held' cnt' e') (hne : g' ≠ g) (K : Keeps (fun k => k = g) w w') : Rdr w' B' g' hv' held' cnt' e' :=
  Y.keeps K (fun hf => hne hf) (fun i hi hf => by subst hf; exact Y.own.apartB X.blk (by decide) hi)
theorem Ext.ended {w0 : World} (hx : Ext w0 w) (hg : w0.heap.size ≤ g) (K : Keeps (fun k => k = g) w w') : Ext w0 w' := hx.keeps K (fun i hi hf => by omega)
end

/-- What has come when k rounds are over. -/
def upF (ps : List (List UInt8)) (k : Nat) : List UInt8 := (ps.take k).flatten
theorem upF_zero (ps : List (List UInt8)) : upF ps 0 = [] := rfl
theorem upF_step (ps : List (List UInt8)) (k : Nat) (h : k < ps.length) : upF ps (k + 1) = upF ps k ++ ps.getD k [] := flat_snoc ps k h
theorem upF_over (ps : List (List UInt8)) (k : Nat) (h : ps.length ≤ k) : upF ps (k + 1) = upF ps k := by
  unfold upF
  rw [List.take_of_length_le h, List.take_of_length_le (by omega)]
theorem upF_le (ps : List (List UInt8)) (k : Nat) : (upF ps k).length ≤ ps.flatten.length := flat_take_le ps k
def lnL (ps : List (List UInt8)) (k : Nat) : List (List UInt8) := (splitL [] (upF ps k)).1
def lnR (ps : List (List UInt8)) (k : Nat) : List UInt8 := (splitL [] (upF ps k)).2
theorem ln_len (ps : List (List UInt8)) (k : Nat) : (lnL ps k).length + (lnR ps k).length ≤ ps.flatten.length := by
  have h1 := splitL_len (upF ps k) []
  have h2 := upF_le ps k
  unfold lnL lnR
  simp only [List.length_nil, Nat.zero_add] at h1
  omega
theorem lnL_step (ps : List (List UInt8)) (k : Nat) (h : k < ps.length) : lnL ps (k + 1) = lnL ps k ++ (splitL (lnR ps k) (ps.getD k [])).1 := by
  unfold lnL lnR
  rw [upF_step ps k h, splitL_append]
theorem lnR_step (ps : List (List UInt8)) (k : Nat) (h : k < ps.length) : lnR ps (k + 1) = (splitL (lnR ps k) (ps.getD k [])).2 := by
  unfold lnR
  rw [upF_step ps k h, splitL_append]
theorem lnL_over (ps : List (List UInt8)) (k : Nat) (h : ps.length ≤ k) : lnL ps (k + 1) = lnL ps k := by unfold lnL; rw [upF_over ps k h]
theorem lnR_over (ps : List (List UInt8)) (k : Nat) (h : ps.length ≤ k) : lnR ps (k + 1) = lnR ps k := by unfold lnR; rw [upF_over ps k h]
theorem piece_le (ps : List (List UInt8)) (k : Nat) : (ps.getD k []).length ≤ ps.flatten.length := by
  by_cases hk : k < ps.length
  · have h1 := upF_step ps k hk
    have h2 := upF_le ps (k + 1)
    rw [h1, List.length_append] at h2
    omega
  · rw [List.getD_eq_getElem?_getD, List.getElem?_eq_none (by omega)]; exact Nat.zero_le _

set_option maxRecDepth 100000 in
set_option maxHeartbeats 8000000 in
theorem lApart_core (ps qs : List (List UInt8)) (A A' : Option Addr) (cap cap' : Nat) (w : World)
    (hc : ∀ j, j < ps.length → ∃ g o, A = some ⟨g, o, none⟩ ∧ ∃ pv, w.cell? ⟨g, o + j, none⟩ = some pv ∧ RdV w pv (ps.getD j []))
    (hc' : ∀ j, j < qs.length → ∃ g o, A' = some ⟨g, o, none⟩ ∧ ∃ pv, w.cell? ⟨g, o + j, none⟩ = some pv ∧ RdV w pv (qs.getD j []))
    (hpl : ps.length ≤ 2000) (hfl : ps.flatten.length ≤ 200000) (hql : qs.length ≤ 2000) (hgl : qs.flatten.length ≤ 200000)
    (HM : Hid (∀ W, Ext w W → Calls Tryd.prog 7 #[.slice A ps.length cap] W fun r w' => r = .returned (.bool false) ∧ W = w'))
    (HM' : Hid (∀ W, Ext w W → Calls Tryd.prog 7 #[.slice A' qs.length cap'] W fun r w' => r = .returned (.bool false) ∧ W = w')) :
    Calls Tryd.prog 4 #[.slice A ps.length cap, .slice A' qs.length cap'] w fun r w' => r = .returned (.bool true) ∧ Ext w w' := by
  have HL := Lib.hid (fun W => lLives_any W)
  have HC := Lib.hid hc
  have HC' := Lib.hid hc'
  have HN := Lib.hid (fun W => new_any W)
  clear hc hc'
  go_enter Tryd.func4, Tryd.ntmps4
  go_upto_region 5 with (first
    | (go_at_call 6; refine (HL.out _).mono ?_; rintro e w1 ⟨rfl, hx1⟩)
    | (go_at_call 7; ((with_reducible refine (HM.out _ hx1).mono ?_); rintro e w2 ⟨rfl, rfl⟩; clear HM))
    | (go_at_call 7; ((with_reducible refine (HM'.out _ hx1).mono ?_); rintro e w2 ⟨rfl, rfl⟩)))
  clear HL HM'
  have hx2 := hx1.alloc (.cells #[.slice none 0 0, .int .i64 0, .bool false] 45)
  have hx3 := hx2.alloc (.cells #[.slice none 0 0, .int .i64 0, .bool false] 45)
  have hx4 := hx3.alloc (.cells #[.slice none 0 0, .int .i64 0, .bool false] 45)
  have hRa := ((Rdr.new w1 w.heap.size).ext ((Ext.refl _).alloc (.cells #[.slice none 0 0, .int .i64 0, .bool false] 45))).ext ((Ext.refl _).alloc (.cells #[.slice none 0 0, .int .i64 0, .bool false] 45))
  have hRb := (Rdr.new (w1.alloc (.cells #[.slice none 0 0, .int .i64 0, .bool false] 45)) w.heap.size).ext ((Ext.refl _).alloc (.cells #[.slice none 0 0, .int .i64 0, .bool false] 45))
  have hRc := Rdr.new ((w1.alloc (.cells #[.slice none 0 0, .int .i64 0, .bool false] 45)).alloc (.cells #[.slice none 0 0, .int .i64 0, .bool false] 45)) w.heap.size
  have hga := hx1.size
  simp only [World.size_alloc] at hRb hRc
  go_upto_region 6 with (first
    | (go_at_call 8; refine (HN.out _).mono ?_; rintro e w3 ⟨rfl, rfl⟩))
  clear hx2 hx3
  generalize ((w1.alloc (.cells #[.slice none 0 0, .int .i64 0, .bool false] 45)).alloc (.cells #[.slice none 0 0, .int .i64 0, .bool false] 45)).alloc (.cells #[.slice none 0 0, .int .i64 0, .bool false] 45) = w3 at *
  generalize w1.heap.size = ga at *
  go_wp2
  go_loopw [8, 9, 10, 11, 12] (fun i _ _ _ _ wr => ∃ (k : Nat) (hva hvb hvc : Value), k ≤ 2000 ∧ i = .int .i64 k ∧ Rdr wr w.heap.size ga hva (lnR ps k) (lnL ps k).length false ∧
      Rdr wr w.heap.size (ga + 1) hvb (lnR qs k) (lnL qs k).length false ∧ Rdr wr w.heap.size (ga + 1 + 1) hvc (lnR ps k) (lnL ps k).length false ∧ Apt hva hvb ∧ Apt hva hvc ∧ Apt hvb hvc ∧ Ext w wr) (fun i _ _ _ _ _ => 2000 - (intOf i).toNat)
  case atStart => exact ⟨0, _, _, _, Nat.zero_le _, rfl, hRa, hRb, hRc, Apt.nil _, Apt.nil _, Apt.nil _, hx4⟩
  case round =>
    clear hRa hRb hRc hx4
    obtain ⟨k, hva, hvb, hvc, hk, rfl, hRa, hRb, hRc, ab, ac, bc, hx⟩ := hrel
    by_cases hp : k < ps.length
    · have d1 : (k : Int) < (ps.length : Int) := by omega
      go_upto_if 45 with fail
      go_cut [] (fun wx => ∃ hvb', Rdr wx w.heap.size ga hva (lnR ps k) (lnL ps k).length false ∧ Rdr wx w.heap.size (ga + 1) hvb' (lnR qs (k + 1)) (lnL qs (k + 1)).length false ∧ Rdr wx w.heap.size (ga + 1 + 1) hvc (lnR ps k) (lnL ps k).length false ∧ Apt hva hvb' ∧ Apt hvb' hvc ∧ Ext w wx)
      case first =>
        by_cases hq : k < qs.length
        · skip
          have hB := fun W (h : Ext wr W) => Nat.le_trans hx.size h.size
          have hpb := piece_le qs k
          have hlb := ln_len qs k
          obtain ⟨g, o, rfl, pv, hcell, hpv⟩ := HC'.out k hq
          replace hcell := hx.cell hcell
          have hcell2 := ((Ext.refl wr).alloc (.cells #[] 5)).cell hcell
          have HPV := Lib.hid hpv
          have hsL := Lib.hid (lnL_step qs k hq)
          have hsR := Lib.hid (lnR_step qs k hq)
          clear hpv
          generalize qs.getD k [] = b at *
          generalize hLe : lnL qs k = L at *
          generalize hRe : lnR qs k = R at *
          have d2 : (k : Int) < (qs.length : Int) := by omega
          have hbn : b.length ≤ 200000 := by omega
          have hrb : R.length + b.length ≤ 1000000000 := by omega
          have hlb2 : L.length + b.length ≤ 1000000000 := by omega
          have HH := Lib.hid (⟨hrb, hlb2⟩ : R.length + b.length ≤ 1000000000 ∧ L.length + b.length ≤ 1000000000)
          have HRa := Lib.hid hRa
          have HRb := Lib.hid hRb
          have HRc := Lib.hid hRc
          clear hpb hlb hrb hlb2 hLe hRe hRa hRb hRc
          go_wp2_with (first
            | (at_builtin; refine wpList_appP rfl (.tmp 47) (.tmp 51) rfl pv b rfl rfl (HPV.out.ext hx) (by omega) ?_; intro k4 c4 w4 hk4 hrd4 hc4 own4 hx4)
            | (go_at_call 9; refine (feed_rdr w.heap.size (ga + 1) hvb R b L.length ⟨k4, 0, none⟩ c4 w4 (HRb.out.ext hx4) hc4 hrd4 (by have := HRb.out.blk.lt; simp only; omega) (hB _ hx4) HH.out.1 HH.out.2).mono ?_; rintro e w5 ⟨lv, hv5, rfl, hL5, hR5, hob5, hK5⟩))
          have hRa4 := HRa.out.ext hx4
          have hRb4 := HRb.out.ext hx4
          have hRc4 := HRc.out.ext hx4
          have hRa5 := hRb4.other hRa4 (by omega) ab.symm hK5
          have hRc5 := hRb4.other hRc4 (by omega) bc hK5
          have hx5 := Ext.fed hRb4 (hx.trans hx4) (Nat.le_refl _) (by omega) hK5
          have ab5 := (Apt.fed hRa4 ab.symm hob5).symm
          have bc5 := Apt.fed hRc4 bc hob5
          rw [← List.length_append, ← hsL.out, ← hsR.out] at hR5
          go_meet
          case rel => exact ⟨hv5, hRa5, hR5, hRc5, ab5, bc5, hx5⟩
        · have d2 : ¬ (k : Int) < (qs.length : Int) := by omega
          have e1 := lnR_over qs k (by omega)
          have e2 := lnL_over qs k (by omega)
          have E1 := Lib.hid e1
          have E2 := Lib.hid e2
          clear e1 e2
          go_wp2
          go_meet
          case rel => exact ⟨hvb, hRa, by rw [E1.out, E2.out]; exact hRb, hRc, ab, bc, hx⟩
      case rest =>
        clear hRa hRb hRc ab bc hx
        obtain ⟨hvb', hRa, hRb, hRc, ab, bc, hx⟩ := hcut
        have hB := fun W (h : Ext wc W) => Nat.le_trans hx.size h.size
        have hpb := piece_le ps k
        have hlb := ln_len ps k
        obtain ⟨g, o, rfl, pv, hcell0, hpv⟩ := HC.out k hp
        have hcell := hx.cell hcell0
        have hcell2 := ((Ext.refl wc).alloc (.cells #[] 5)).cell hcell
        have HPV := Lib.hid hpv
        have HC0 := Lib.hid hcell0
        have hsL := Lib.hid (lnL_step ps k hp)
        have hsR := Lib.hid (lnR_step ps k hp)
        clear hpv hcell0
        generalize ps.getD k [] = b at *
        generalize hLe : lnL ps k = L at *
        generalize hRe : lnR ps k = R at *
        have hbn : b.length ≤ 200000 := by omega
        have hls := splitL_len b R
        have HH := Lib.hid (⟨by omega, by omega, by omega⟩ : R.length + b.length ≤ 1000000000 ∧ L.length + b.length ≤ 1000000000 ∧ (splitL R b).1.length ≤ 1000000000000)
        have HRa := Lib.hid hRa
        have HRb := Lib.hid hRb
        have HRc := Lib.hid hRc
        clear hpb hlb hls hLe hRe hRa hRb hRc
        go_upto_region 13 with (first
          | (at_builtin; refine wpList_appP rfl (.tmp 60) (.tmp 64) rfl pv b rfl rfl (HPV.out.ext hx) (by omega) ?_; intro k4 c4 w4 hk4 hrd4 hc4 own4 hx4)
          | (go_at_call 9; refine (feed_rdr w.heap.size ga hva R b L.length ⟨k4, 0, none⟩ c4 w4 (HRa.out.ext hx4) hc4 hrd4 (by have := HRa.out.blk.lt; simp only; omega) (hB _ hx4) HH.out.1 HH.out.2.1).mono ?_; rintro e w5 ⟨lv, hv5, rfl, hL5, hR5, hob5, hK5⟩))
        have hRa4 := HRa.out.ext hx4
        have hRb4 := HRb.out.ext hx4
        have hRc4 := HRc.out.ext hx4
        have HRb5 := Lib.hid (hRa4.other hRb4 (by omega) ab hK5)
        have HRc5 := Lib.hid (hRa4.other hRc4 (by omega) ac hK5)
        have hx5 := Ext.fed hRa4 (hx.trans hx4) (Nat.le_refl _) (by omega) hK5
        have ab5 := Apt.fed hRb4 ab hob5
        have ac5 := Apt.fed hRc4 ac hob5
        have HRa5 := Lib.hid hR5
        have HL5 := Lib.hid hL5
        have hB5 := fun W (h : Ext w5 W) => Nat.le_trans hx5.size h.size
        have hc5 := hx5.cell HC0.out
        have hc52 := ((Ext.refl w5).alloc (.cells #[] 5)).cell hc5
        clear hRa4 hRb4 hRc4 HRa HRb HRc hK5 hob5 hR5 hL5 hx4 hx hcell hcell2 ab ac hB hrd4 own4 hc4 hk4
        go_upto_region 14 with (first
          | (at_builtin; refine wpList_appP rfl (.tmp 71) (.tmp 75) rfl pv b rfl rfl (HPV.out.ext hx5) (by omega) ?_; intro k6 c6 w6 hk6 hrd6 hc6 own6 hx6)
          | (go_at_call 9; refine (feed_rdr w.heap.size (ga + 1 + 1) hvc R b L.length ⟨k6, 0, none⟩ c6 w6 (HRc5.out.ext hx6) hc6 hrd6 (by have := HRc5.out.blk.lt; simp only; omega) (hB5 _ hx6) HH.out.1 HH.out.2.1).mono ?_; rintro e w7 ⟨lv7, hv7, rfl, hL7, hR7, hob7, hK7⟩))
        have hRa6 := HRa5.out.ext hx6
        have hRb6 := HRb5.out.ext hx6
        have hRc6 := HRc5.out.ext hx6
        have hL6 := HL5.out.ext hx6
        have HRa7 := Lib.hid (hRc6.other hRa6 (by omega) ac5.symm hK7)
        have HRb7 := Lib.hid (hRc6.other hRb6 (by omega) bc.symm hK7)
        have hx7 := Ext.fed hRc6 (hx5.trans hx6) (Nat.le_refl _) (by omega) hK7
        have bc7 := (Apt.fed hRb6 bc.symm hob7).symm
        have ac7 := (Apt.fed hRa6 ac5.symm hob7).symm
        have HS := Lib.hid (same_any _ lv lv7 w7 (RdT.of_own (hL6.keeps hK7 (hRc6.far hL6))) (RdT.of_own hL7) HH.out.2.2)
        have HRc7 := Lib.hid hR7
        clear hRa6 hRb6 hRc6 HRa5 HRb5 HRc5 HL5 hL6 hK7 hob7 hR7 hL7 hx6 hx5 hc5 hc52 hB5 hrd6 own6 hc6 hk6
        go_wp2_with (go_at_call 11; refine HS.out.mono ?_; rintro e w8 ⟨rfl, hx8⟩)
        have e1 := hsL.out
        have e2 := hsR.out
        go_roundw
        case rel =>
          refine ⟨k + 1, hv5, hvb', hv7, by omega, by go_num, ?_, HRb7.out.ext hx8, ?_, ab5, ac7, bc7, hx7.trans hx8⟩
          · rw [e1, e2, List.length_append]; exact HRa7.out.ext hx8
          · rw [e1, e2, List.length_append]; exact HRc7.out.ext hx8
        case measure => simp [intOf]; omega
    · by_cases hq : k < qs.length
      · skip
        have hB := fun W (h : Ext wr W) => Nat.le_trans hx.size h.size
        have hpb := piece_le qs k
        have hlb := ln_len qs k
        obtain ⟨g, o, rfl, pv, hcell, hpv⟩ := HC'.out k hq
        replace hcell := hx.cell hcell
        have hcell2 := ((Ext.refl wr).alloc (.cells #[] 5)).cell hcell
        have HPV := Lib.hid hpv
        have hsL := Lib.hid (lnL_step qs k hq)
        have hsR := Lib.hid (lnR_step qs k hq)
        clear hpv
        generalize qs.getD k [] = b at *
        generalize hLe : lnL qs k = L at *
        generalize hRe : lnR qs k = R at *
        have d2 : (k : Int) < (qs.length : Int) := by omega
        have hbn : b.length ≤ 200000 := by omega
        have hrb : R.length + b.length ≤ 1000000000 := by omega
        have hlb2 : L.length + b.length ≤ 1000000000 := by omega
        have HH := Lib.hid (⟨hrb, hlb2⟩ : R.length + b.length ≤ 1000000000 ∧ L.length + b.length ≤ 1000000000)
        have HRa := Lib.hid hRa
        have HRb := Lib.hid hRb
        have HRc := Lib.hid hRc
        clear hpb hlb hrb hlb2 hLe hRe hRa hRb hRc
        go_wp2_with (first
          | (at_builtin; refine wpList_appP rfl (.tmp 47) (.tmp 51) rfl pv b rfl rfl (HPV.out.ext hx) (by omega) ?_; intro k4 c4 w4 hk4 hrd4 hc4 own4 hx4)
          | (go_at_call 9; refine (feed_rdr w.heap.size (ga + 1) hvb R b L.length ⟨k4, 0, none⟩ c4 w4 (HRb.out.ext hx4) hc4 hrd4 (by have := HRb.out.blk.lt; simp only; omega) (hB _ hx4) HH.out.1 HH.out.2).mono ?_; rintro e w5 ⟨lv, hv5, rfl, hL5, hR5, hob5, hK5⟩))
        have hRa4 := HRa.out.ext hx4
        have hRb4 := HRb.out.ext hx4
        have hRc4 := HRc.out.ext hx4
        have hRa5 := hRb4.other hRa4 (by omega) ab.symm hK5
        have hRc5 := hRb4.other hRc4 (by omega) bc hK5
        have hx5 := Ext.fed hRb4 (hx.trans hx4) (Nat.le_refl _) (by omega) hK5
        have ab5 := (Apt.fed hRa4 ab.symm hob5).symm
        have bc5 := Apt.fed hRc4 bc hob5
        rw [← List.length_append, ← hsL.out, ← hsR.out] at hR5
        go_roundw
        case rel => exact ⟨k + 1, hva, hv5, hvc, by omega, by go_num, by rw [lnL_over ps k (by omega), lnR_over ps k (by omega)]; exact hRa5, hR5, by rw [lnL_over ps k (by omega), lnR_over ps k (by omega)]; exact hRc5, ab5, ac, bc5, hx5⟩
        case measure => simp [intOf]; omega
      · have hnp := ln_len ps k
        have hnq := ln_len qs k
        clear HC HC' HN
        generalize lnL ps k = L at *
        generalize lnR ps k = R at *
        have hEb := Lib.hid (end_rdr w.heap.size (ga + 1) hvb _ _ wr hRb (by omega))
        go_upto_region 17 with (go_at_call 10; refine hEb.out.mono ?_; rintro e w4 ⟨hv4, rfl, hR4, hK4⟩)
        have hRa4 := hRb.otherEnd hRa (by omega) hK4
        have hRc4 := hRb.otherEnd hRc (by omega) hK4
        have hx4 := Ext.ended hx (by omega) hK4
        clear hEb hRa hRb hRc hx hK4 hR4 ab ac bc
        have hEa := Lib.hid (end_rdr w.heap.size ga hva _ _ w4 hRa4 (by omega))
        go_upto_region 18 with (go_at_call 10; refine hEa.out.mono ?_; rintro e w5 ⟨hv5, rfl, hRa5, hK5⟩)
        have hRc5 := hRa4.otherEnd hRc4 (by omega) hK5
        have hx5 := Ext.ended hx4 (by omega) hK5
        clear hEa hRa4 hRc4 hx4 hK5
        have hEc := Lib.hid (end_rdr w.heap.size (ga + 1 + 1) hvc _ _ w5 hRc5 (by omega))
        go_upto_region 19 with (go_at_call 10; refine hEc.out.mono ?_; rintro e w6 ⟨hv6, rfl, hRc6, hK6⟩)
        have hRa6 := hRc5.otherEnd hRa5 (by omega) hK6
        have hx6 := Ext.ended hx5 (by omega) hK6
        clear hEc hRa5 hRc5 hx5 hK6 hnp hnq
        have HCa := Lib.hid (count_any ga hv5 (L.length + endN R) true w6 hRa6.blk)
        have HCc := Lib.hid (count_any (ga + 1 + 1) hv6 (L.length + endN R) true w6 hRc6.blk)
        clear hRa6 hRc6
        unfold strV
        generalize (⟨R.toArray⟩ : ByteArray) = sr at *
        generalize endB R = eb at *
        generalize endN R = en at *
        go_wp2_with (first
          | (go_at_call 12; ((with_reducible refine HCa.out.mono ?_); rintro e w7 ⟨rfl, rfl⟩))
          | (go_at_call 12; ((with_reducible refine HCc.out.mono ?_); rintro e w8 ⟨rfl, rfl⟩)))
        go_ret
        exact ⟨rfl, hx6⟩

theorem linesApart_walk (ps qs : List (List UInt8)) (v v' : Value) (w : World) (hv : RdP w v ps) (hv' : RdP w v' qs) (hb : ∀ k, (ps.getD k []).length ≤ 140737488351232) (hb' : ∀ k, (qs.getD k []).length ≤ 140737488351232)
    (hl : ps.length ≤ 9223372036854775807) (hl' : qs.length ≤ 9223372036854775807) :
    Calls Tryd.prog 4 #[v, v'] w fun r w' => r = .returned (.bool true) ∧ Ext w w' := by
  have HL := Lib.hid (fun W => lLives_any W)
  have HM := Lib.hid (fun W (hW : Ext w W) => much_any ps v W (hv.ext hW) hb hl)
  have HM' := Lib.hid (fun W (hW : Ext w W) => much_any qs v' W (hv'.ext hW) hb' hl')
  obtain ⟨A, c, rfl, hc⟩ := hv
  obtain ⟨A', c', rfl, hc'⟩ := hv'
  have hmn := much_no ps
  have hmn' := much_no qs
  cases hm : muchB ps with
  | true =>
    rw [hm] at HM
    clear hmn hm hmn' hc hc' hb hb'
    go_enter Tryd.func4, Tryd.ntmps4
    go_wp2_with (first
      | (go_at_call 6; refine (HL.out _).mono ?_; rintro e w1 ⟨rfl, hx1⟩)
      | (go_at_call 7; refine (HM.out _ hx1).mono ?_; rintro e w2 ⟨rfl, rfl⟩))
    go_ret
    exact ⟨rfl, hx1⟩
  | false =>
    obtain ⟨hpl, hfl⟩ := hmn hm
    rw [hm] at HM
    cases hm' : muchB qs with
    | true =>
      rw [hm'] at HM'
      clear hmn hm hmn' hm' hc hc' hb hb'
      go_enter Tryd.func4, Tryd.ntmps4
      go_wp2_with (first
        | (go_at_call 6; refine (HL.out _).mono ?_; rintro e w1 ⟨rfl, hx1⟩)
        | (go_at_call 7; ((with_reducible refine (HM.out _ hx1).mono ?_); rintro e w2 ⟨rfl, rfl⟩; clear HM))
        | (go_at_call 7; ((with_reducible refine (HM'.out _ hx1).mono ?_); rintro e w2 ⟨rfl, rfl⟩)))
      go_ret
      exact ⟨rfl, hx1⟩
    | false =>
      obtain ⟨hql, hgl⟩ := hmn' hm'
      rw [hm'] at HM'
      exact lApart_core ps qs A A' c c' w hc hc' hpl hfl hql hgl HM HM'

end Go.Proofs.YtfgocamajfipmaaDoor
