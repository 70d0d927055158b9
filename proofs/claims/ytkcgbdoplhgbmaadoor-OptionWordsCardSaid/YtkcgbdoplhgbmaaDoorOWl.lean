/- The walk of trawllaw28.OptionWords. Conditions: the options' patterns lie in memory; their lengths; where the error values and the library's variables lie. -/
import Derived.Test.YtkcgbdoplhgbmaaDoorOWs
import Derived.Test.YtkcgbdoplhgbmaaDoorOLv
import Derived.Test.YtkcgbdoplhgbmaaDoorOOp
import Derived.Test.YtkcgbdoplhgbmaaDoorOSm
namespace Go.Proofs.YtkcgbdoplhgbmaaDoor
open Go Go.RowKit

theorem map_byB_inj : ∀ {a b : List ByteArray}, a.map byB = b.map byB → a = b
  | [], [], _ => rfl
  | [], _ :: _, h => by cases h
  | _ :: _, [], h => by cases h
  | x :: a, y :: b, h => by
    simp only [List.map_cons, List.cons.injEq] at h
    rw [byB_inj h.1, map_byB_inj h.2]
theorem RdT.news {w : World} {v : Value} {l : List ByteArray} (h : RdT w v l) (hz : NilZ v) : (v = .slice none 0 0 ∧ l.map Value.string = []) ∨ ∃ ad c, v = .slice (some ad) (l.map Value.string).length c ∧ ∀ j u, (l.map Value.string)[j]? = some u → w.cell? (ad.add j) = some u := by
  obtain ⟨A, c, rfl, hlc, hc⟩ := h
  rcases hz with hz | ⟨ad, n, c', hz⟩
  · injection hz with h1 h2 h3
    subst h1 h3
    have : l = [] := List.eq_nil_of_length_eq_zero h2
    subst this
    exact .inl ⟨rfl, rfl⟩
  · injection hz with h1 _ _
    subst h1
    refine .inr ⟨ad, c, by rw [List.length_map], fun j u hu => ?_⟩
    rw [List.getElem?_map] at hu
    obtain ⟨x, hx, rfl⟩ := Option.map_eq_some_iff.1 hu
    obtain ⟨hj, hx⟩ := List.getElem?_eq_some_iff.1 hx
    obtain ⟨g, o, hA, hcell⟩ := hc j hj
    injection hA with hA
    subst hA
    rw [show (⟨g, o, none⟩ : Addr).add j = ⟨g, o + j, none⟩ from (by unfold Addr.add; split <;> simp_all), hcell, List.getD_eq_getElem?_getD, List.getElem?_eq_getElem hj, hx]
    rfl
theorem patW_len (l : List (List UInt8)) : (patW l).length = 2 * l.length := by
  induction l with
  | nil => rfl
  | cons x r ih =>
    have e : patW (x :: r) = [45, 101] :: x :: patW r := rfl
    rw [e, List.length_cons, List.length_cons, ih, List.length_cons]
    omega
theorem words_len (o : Ops) : (wordsP o).length ≤ 3 + 2 * o.pats.length := by
  unfold wordsP
  rw [List.length_append, List.length_append, patW_len]
  split <;> split <;> simp <;> omega
theorem own_lit0 (w : World) : Own1 (w.alloc (.cells #[] 9)) w.heap.size 9 (.slice (some ⟨w.heap.size, 0, none⟩) 0 0) (([] : List ByteArray).map Value.string) :=
  ⟨rfl, .inr ⟨w.heap.size, 0, #[], rfl, Nat.le_refl _, heap_alloc_new w _, Nat.le_refl _, Nat.zero_le _, rfl, rfl⟩⟩

set_option maxRecDepth 100000 in
set_option maxHeartbeats 16000000 in
theorem optionWords_walk (o : Ops) (pv : Value) (ws : List ByteArray) (w : World) (A : Nat → Addr) (m : Int) (hW : RdT w pv ws) (hp : ws.map byB = o.pats) (hz : NilZ pv) (hl : ws.length ≤ 1000000000000000 ∧ ∀ x ∈ ws, x.size ≤ 1000000000000000)
    (hf : -9223372036854775808 ≤ o.fl ∧ o.fl ≤ 9223372036854775807) (hd : -9223372036854775808 ≤ o.md ∧ o.md ≤ 9223372036854775807) (hm : -9223372036854775808 ≤ o.most ∧ o.most ≤ 9223372036854775807)
    (hE : ErrsAt w A) (hV : LibV w) (hM : w.cell? ⟨22, 0, none⟩ = some (.int .i64 m)) :
    Calls Tryd.prog 11 #[opV o pv] w fun e w' => e = .returned (.bool true) ∧ Ext w w' := by
  have HW := Lib.hid hW
  have HP := Lib.hid hp
  have HZ := Lib.hid hz
  have HL := Lib.hid hl
  have HF := Lib.hid hf
  have HD := Lib.hid hd
  have HM := Lib.hid hm
  have HE := Lib.hid hE
  have HV := Lib.hid hV
  have HMX := Lib.hid hM
  obtain ⟨AA, c, rfl, hlc, _⟩ := hW
  clear hp hz hl hf hd hm hE hV hM
  go_enter Tryd.func11, Tryd.ntmps11
  go_upto_region 1 with (refine wpl_boxOp rfl _ rfl o (.slice AA ws.length c) rfl ?_; intro g w1 hg hx1 hg0 hgl)
  have HX := Lib.hid hx1
  have c8 : w1.cell? ⟨g, 8, none⟩ = some (.slice AA ws.length c) := hg.cell 8
  have HG := Lib.hid hg
  have HLV := Lib.hid (lives28_any w1 A m (HE.out.ext hx1) (hx1.cell HMX.out) (hx1.cell HV.out.et))
  clear hg hx1
  go_upto_region 3 with (go_at_call 28; refine HLV.out.mono ?_; rintro e w2 ⟨rfl, hx2⟩)
  replace c8 := hx2.cell c8
  have HX2 := Lib.hid (HX.out.trans hx2)
  have HG2 := Lib.hid (HG.out.ext hx2)
  clear HLV HG hx2
  have HMU := Lib.hid (much_any ws (.slice AA ws.length c) w2 (HW.out.ext HX2.out) HL.out.1 HL.out.2)
  by_cases hmu : 50000 < totP (ws.map byB)
  · rw [decide_eq_true hmu] at HMU
    clear hmu
    go_wp2_with (go_at_call 29; refine HMU.out.mono ?_; rintro e w3 ⟨rfl, rfl⟩)
    go_ret
    exact ⟨rfl, HX2.out⟩
  rw [decide_eq_false hmu] at HMU
  have hll : ws.length ≤ 50000 := by
    have := tot_len (ws.map byB)
    rw [List.length_map] at this
    omega
  have HT : Hid (totP (ws.map byB) ≤ 1000000000) := Lib.hid (by omega)
  clear hmu
  go_upto_region 5 with (go_at_call 29; refine HMU.out.mono ?_; rintro e w3 ⟨rfl, rfl⟩)
  clear HMU
  go_upto_region 6 with (first
    | (refine wpl_loadOp rfl _ rfl g 0 o (.slice AA ws.length c) rfl (Blk.opAt HG2.out) ?_)
    | (refine wpl_allocOp rfl rfl ?_; intro z w3 hz hx3 hz0 hzl)
    | (refine wpl_storeOp rfl _ _ rfl rfl z o zeroO (.slice AA ws.length c) (.slice none 0 0) rfl rfl ⟨_, _, _, rfl⟩ hz ?_; intro w4 hz4 hk4))
  have hzl4 : z < w4.heap.size := hz4.lt
  have hx24 : Ext w2 w4 := hx3.keeps hk4 (fun _ h1 h2 => by omega)
  have c8' := hx24.cell c8
  have HX24 := Lib.hid hx24
  have hsz24 := hx24.size
  have HX4 := Lib.hid (HX2.out.trans hx24)
  have HZ4 := Lib.hid hz4
  clear hz hx3 hk4 hz4 c8 hx24
  have c8a := ((Ext.refl w4).alloc (.cells #[] 9)).cell c8'
  have hNW := ((HW.out.ext HX4.out).ext ((Ext.refl w4).alloc (.cells #[] 9))).news HZ.out
  have HNW := Lib.hid hNW
  clear hNW
  go_upto_region 7 with (at_builtin; refine wpList_appK rfl (.tmp 17) (.tmp 19) 43 rfl w4.heap.size 9 (.string ⟨#[]⟩) 16 Tryd.underlying43 info_str rfl _ _ (ws.map Value.string) rfl (own_lit0 w4) HNW.out (by intro u hu; obtain ⟨x, _, rfl⟩ := List.mem_map.1 hu; rfl) (by simp; omega) (by simp; omega) (by simp) ?_; intro v5 w5 own5 hg5 _ _; have hK5 := (Keeps.refl (fun k => k = w4.heap.size) (w4.alloc (.cells #[] 9))).grown hg5 (fun k hk => .inr (by injection hk with hk; exact hk.symm)); have hz5 := (HZ4.out.alloc (.cells #[] 9)).keeps hK5 (by omega); have c8z : w5.cell? ⟨z, 8, none⟩ = some (.slice AA ws.length c) := hz5.cell 8; have f8z := hz5.frozen 8; obtain ⟨A5, c5, rfl, _⟩ := own5.shape)
  simp only [List.map_nil, List.nil_append, List.length_map] at own5
  have hx25 : Ext w2 w5 := (HX24.out.alloc (.cells #[] 9)).keeps hK5 (fun _ h1 h2 => by omega)
  have hks := (Keeps.refl (· = z) w5).setCell (p := ⟨z, 8, none⟩) (.inr rfl) (.slice A5 ws.length c5)
  have hb6 : Blk (w5.setCell ⟨z, 8, none⟩ (.slice A5 ws.length c5)) z 46 (opA o (.slice A5 ws.length c5)) := hz5.set 8 _
  have ho6 : Own1 (w5.setCell ⟨z, 8, none⟩ (.slice A5 ws.length c5)) w4.heap.size 9 (.slice A5 ws.length c5) (ws.map Value.string) := own5.keeps hks (fun _ hk1 e => own5.apartB hz5 (by decide) (by subst e; exact hk1))
  have hx26 : Ext w2 (w5.setCell ⟨z, 8, none⟩ (.slice A5 ws.length c5)) := hx25.keeps hks (fun _ h1 h2 => by omega)
  generalize w5.setCell ⟨z, 8, none⟩ (.slice A5 ws.length c5) = w6 at *
  have HX6 := Lib.hid (HX2.out.trans hx26)
  have HG6 := Lib.hid (HG2.out.ext hx26)
  have HZ6 := Lib.hid hb6
  have HR6 := Lib.hid (RdT.of_own ho6)
  clear own5 hx25 hks hb6 ho6 hx26 hK5 hz5 c8z f8z hg5 HNW c8a c8' HG2 HZ4
  have HOW := Lib.hid (fun W (hW : Ext w6 W) => owords_any o (.slice A5 ws.length c5) ws A W (HR6.out.ext hW) HP.out HT.out HM.out HF.out HD.out (HE.out.ext (HX6.out.trans hW)) (HV.out.ext (HX6.out.trans hW)))
  have HRW := Lib.hid (fun W (hW : Ext w6 W) => rwrd_any o (.slice AA ws.length c) ws W (HW.out.ext (HX6.out.trans hW)) HP.out HT.out HM.out)
  go_upto_region 8 with (first
    | (refine wpl_loadOp rfl _ rfl z 0 o (.slice A5 ws.length c5) rfl (Blk.opAt HZ6.out) ?_)
    | (go_at_call 53; refine (HOW.out _ (Ext.refl _)).mono ?_; rintro e w7 ⟨lv7, ls7, ev7, rfl, how7, hls7, hx7, hf7⟩))
  have hsz7 := hx7.size
  have HO7 := Lib.hid how7
  have HL7 := Lib.hid hls7
  have HX7 := Lib.hid hx7
  have HF7 := Lib.hid hf7
  have HZ7 := Lib.hid (HZ6.out.ext hx7)
  clear how7 hls7 hx7 hf7
  go_upto_region 9 with (first
    | (refine wpl_loadOp rfl _ rfl z 0 o (.slice A5 ws.length c5) rfl (Blk.opAt HZ7.out) ?_)
    | (go_at_call 53; refine (HOW.out _ HX7.out).mono ?_; rintro e w8 ⟨lv8, ls8, ev8, rfl, how8, hls8, hx8, _⟩))
  have HO8 := Lib.hid how8
  have HL8 := Lib.hid hls8
  have HX8 := Lib.hid (HX7.out.trans hx8)
  have HX78 := Lib.hid hx8
  have HG8 := Lib.hid (HG6.out.ext (HX7.out.trans hx8))
  clear how8 hls8 hx8 HOW HZ7
  go_upto_region 10 with (first
    | (refine wpl_loadOp rfl _ rfl g 0 o (.slice AA ws.length c) rfl (Blk.opAt HG8.out) ?_)
    | (go_at_call 54; refine (HRW.out _ HX8.out).mono ?_; rintro e w9 ⟨lv9, ls9, rfl, how9, hls9, hx9⟩))
  have e78 : ls8 = ls7 := map_byB_inj (HL8.out.trans HL7.out.symm)
  have e79 : ls9 = ls7 := map_byB_inj (hls9.trans HL7.out.symm)
  subst e78 e79
  have hlen : ls9.length ≤ 1000000000000 := by
    have h1 := congrArg List.length HL7.out
    rw [List.length_map] at h1
    rw [h1]
    split
    · have h2 := words_len o
      have h3 := congrArg List.length HP.out
      rw [List.length_map] at h3
      omega
    · simp
  have HX9 := Lib.hid (HX8.out.trans hx9)
  have HR7 := Lib.hid (RdT.of_own (HO7.out.ext (HX78.out.trans hx9)))
  have HR9 := Lib.hid (RdT.of_own how9)
  have HR8 := Lib.hid (RdT.of_own (HO8.out.ext hx9))
  have HF9 := Lib.hid (HF7.out.ext (HX78.out.trans hx9))
  generalize hN : (if okO o then (0 : Int) else 19) = N at *
  have hN2 : N = 0 ∨ N = 19 := by rw [← hN]; split <;> simp
  have hcp : codeP N = N := by rcases hN2 with rfl | rfl <;> rfl
  have hpl : (plF true N []).getD (-1) = -1 := by rcases hN2 with rfl | rfl <;> rfl
  have HNU := Lib.hid (fun W (hW : Ext w9 W) => num_ferr A N [] ev7 W (HF9.out.ext hW) (HE.out.ext ((HX6.out.trans HX9.out).trans hW)))
  have HNI := Lib.hid (fun W (hW : Ext w9 W) => numIndex_any A N [] ev7 W (HF9.out.ext hW) (((HX6.out.trans HX9.out).trans hW).cell HV.out.et))
  rw [hcp] at HNU
  rw [hpl] at HNI
  have HS1 := Lib.hid (fun W (hW : Ext w9 W) => sameT_any ls9 ls9 lv7 lv9 W (HR7.out.ext hW) (HR9.out.ext hW) hlen)
  have HS2 := Lib.hid (fun W (hW : Ext w9 W) => sameT_any ws ws _ _ W (HR6.out.ext (HX9.out.trans hW)) (HW.out.ext ((HX6.out.trans HX9.out).trans hW)) (by omega))
  simp only [decide_true] at HS1 HS2
  have HC : Hid (∀ W, Ext w9 W → W.cell? ⟨z, 8, none⟩ = some (.slice A5 ws.length c5) ∧ W.cell? ⟨g, 8, none⟩ = some (.slice AA ws.length c)) := Lib.hid (fun W hW => ⟨(HZ6.out.ext (HX9.out.trans hW)).cell 8, (HG6.out.ext (HX9.out.trans hW)).cell 8⟩)
  have HLN := Lib.hid hlen
  clear hN hN2 hcp hpl hls9 HRW HG8 HL8 HL7 HF7 hlen
  go_upto_region 12 with (first
    | (go_at_call 18; refine (HNU.out _ (Ext.refl _)).mono ?_; rintro e w10 ⟨rfl, hx10⟩)
    | (go_at_call 32; refine (HNI.out _ hx10).mono ?_; rintro e w11 ⟨rfl, hx11⟩)
    | (go_at_call 34; with_reducible refine (HS1.out _ (hx10.trans hx11)).mono ?_; rintro e w12 ⟨rfl, hx12⟩; obtain ⟨cz, cg⟩ := HC.out _ ((hx10.trans hx11).trans hx12))
    | (go_at_call 34; with_reducible refine (HS2.out _ ((hx10.trans hx11).trans hx12)).mono ?_; rintro e w13 ⟨rfl, hx13⟩))
  have hx93 : Ext w9 w13 := ((hx10.trans hx11).trans hx12).trans hx13
  have HX13 := Lib.hid hx93
  have HW13 := Lib.hid ((HX6.out.trans HX9.out).trans hx93)
  have hl9 : ls9.length ≤ 1000000000000 := HLN.out
  have HS3 := Lib.hid (fun W (h8 : RdT W lv8 ls9) (h9 : RdT W lv9 ls9) => sameT_any ls9 ls9 lv8 lv9 W h8 h9 hl9)
  simp only [decide_true] at HS3
  have h713 := HO7.out.ext ((HX78.out.trans hx9).trans hx93)
  have hx67 := HX7.out.size
  clear hx10 hx11 hx12 hx13 hx93 cz cg
  rcases h713.slice with ⟨rfl, h0⟩ | ⟨g7, cap, cur, rfl, hg7, hb7, hlc7, _, hcs⟩
  · go_wp2
    go_loopw [62] (fun iv wr => iv = .int .i64 0 ∧ w13 = wr) (fun _ _ => 0)
    case atStart => exact ⟨rfl, rfl⟩
    case round =>
      obtain ⟨rfl, rfl⟩ := hrel
      go_wp2_with (go_at_call 34; refine (HS3.out _ (HR8.out.ext HX13.out) (HR9.out.ext HX13.out)).mono ?_; rintro e w14 ⟨rfl, hx14⟩)
      go_ret
      exact ⟨rfl, HW13.out.trans hx14⟩
  rw [List.length_map] at hlc7
  have hg7l : g7 < w7.heap.size := HO7.out.own_lt g7 rfl
  have HB7 := Lib.hid hb7
  have hsz8 := HX78.out.size
  have HH9 := Lib.hid how9
  have HX19 := Lib.hid hx9
  have hw6 := HX6.out.size
  clear hb7 h713 how9 hx9
  go_wp2
  go_loopw [62] (fun iv wr => ∃ (k : Nat) (cur' : Array Value), k ≤ ls9.length ∧ iv = .int .i64 k ∧ Blk wr g7 9 cur' ∧ cur'.size = cap ∧ Keeps (· = g7) w13 wr) (fun iv _ => ls9.length - (intOf iv).toNat)
  case atStart => exact ⟨0, cur, Nat.zero_le _, rfl, HB7.out, hcs, Keeps.refl _ _⟩
  case round =>
    obtain ⟨k, cur', hk, rfl, hb, hsz, hK⟩ := hrel
    have HKK := Lib.hid hK
    have HBB := Lib.hid hb
    by_cases hlt : k < ls9.length
    · have q9 : (k : Int) < (ls9.length : Int) := by omega
      have ck : wr.cell? ⟨g7, k, none⟩ = some cur'[k] := by rw [hb.cell, Array.getElem?_eq_getElem]
      have fk := hb.frozen k
      clear hb hK
      go_wp2
      go_roundw
      case rel => exact ⟨k + 1, _, hlt, by go_num, HBB.out.set k _, by simpa using hsz, HKK.out.setCell (.inr rfl) _⟩
      case measure => simp [intOf]; omega
    · have q9 : ¬ (k : Int) < (ls9.length : Int) := by omega
      have h8 := RdT.of_own ((HO8.out.ext (HX19.out.trans HX13.out)).keeps hK (fun i hi e => by have := (HO8.out.own i hi).1; omega))
      have h9 := RdT.of_own ((HH9.out.ext HX13.out).keeps hK (fun i hi e => by have := (HH9.out.own i hi).1; omega))
      have H8 := Lib.hid h8
      have H9 := Lib.hid h9
      clear hb hK h8 h9
      go_wp2_with (go_at_call 34; refine (HS3.out _ H8.out H9.out).mono ?_; rintro e w14 ⟨rfl, hx14⟩)
      go_ret
      exact ⟨rfl, (HW13.out.keeps HKK.out (fun i h1 h2 => by omega)).trans hx14⟩

end Go.Proofs.YtkcgbdoplhgbmaaDoor
