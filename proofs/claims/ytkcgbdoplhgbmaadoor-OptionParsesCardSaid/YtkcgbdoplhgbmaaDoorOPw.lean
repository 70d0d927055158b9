/- The walk of trawllaw28.OptionParses. Conditions: the words lie in memory; their lengths; where the error values and the library's variables lie. -/
import Derived.Test.YtkcgbdoplhgbmaaDoorOLv
import Derived.Test.YtkcgbdoplhgbmaaDoorOOp
import Derived.Test.YtkcgbdoplhgbmaaDoorOSm
import Derived.Test.YtkcgbdoplhgbmaaDoorOWl
import Derived.Test.YtkcgbdoplhgbmaaDoorOBk
import Derived.Test.YtkcgbdoplhgbmaaDoorORp
namespace Go.Proofs.YtkcgbdoplhgbmaaDoor
open Go Go.RowKit
theorem RdT.pre {w : World} {B : Nat} {e : TypeId} {g n c : Nat} {l : List ByteArray} {x : ByteArray} (h : Own1 w B e (.slice (some ⟨g, 0, none⟩) n c) ((l ++ [x]).map Value.string)) (hlc : l.length ≤ c) : RdT w (.slice (some ⟨g, 0, none⟩) l.length c) l :=
  ⟨_, c, rfl, hlc, fun j hj => ⟨g, 0, rfl, by
    rw [Nat.zero_add]
    refine h.cells.2 j _ ?_
    rw [List.getElem?_map, List.getElem?_append_left hj, List.getD_eq_getElem?_getD, List.getElem?_eq_getElem hj]
    rfl⟩⟩
theorem last_cell {w : World} {B : Nat} {e : TypeId} {g n c : Nat} {l : List ByteArray} {x : ByteArray} (h : Own1 w B e (.slice (some ⟨g, 0, none⟩) n c) ((l ++ [x]).map Value.string)) : w.cell? ⟨g, l.length, none⟩ = some (.string x) :=
  h.cells.2 _ _ (by rw [List.getElem?_map, List.getElem?_append_right (Nat.le_refl _), Nat.sub_self]; rfl)
theorem code_pN (R : Except Nat Ops) : codeP (pN R) = pN R := by cases R <;> rfl
theorem index_pP (R : Except Nat Ops) : (plF true (pN R) (pL R)).getD (-1) = pP R := by cases R <;> rfl

set_option maxRecDepth 100000 in
set_option maxHeartbeats 16000000 in
theorem optionParses_walk (uv : Value) (us : List ByteArray) (w : World) (A : Nat → Addr) (m : Int) (hU : RdT w uv us) (hz : NilZ uv) (hul : us.length ≤ 1000000000000000 ∧ ∀ x ∈ us, x.size ≤ 1000000000000000)
    (hE : ErrsAt w A) (hT : w.cell? ⟨21, 0, none⟩ = some errTV) (hM : w.cell? ⟨22, 0, none⟩ = some (.int .i64 m)) :
    Calls Tryd.prog 5 #[uv] w fun e w' => e = .returned (.bool true) ∧ Ext w w' := by
  have HU := Lib.hid hU
  have HZ := Lib.hid hz
  have HUL := Lib.hid hul
  have HE := Lib.hid hE
  have HT := Lib.hid hT
  have HMX := Lib.hid hM
  obtain ⟨BB, d, rfl, hld, _⟩ := hU
  have HLV := Lib.hid (lives28_any w A m hE hM hT)
  clear hz hul hE hT hM
  go_enter Tryd.func5, Tryd.ntmps5
  go_upto_region 3 with (go_at_call 28; refine HLV.out.mono ?_; rintro e w2 ⟨rfl, hx2⟩)
  have HX2 := Lib.hid hx2
  clear HLV hx2
  have HMU := Lib.hid (much_any us (.slice BB us.length d) w2 (HU.out.ext HX2.out) HUL.out.1 HUL.out.2)
  by_cases hmu : 50000 < totP (us.map byB)
  · rw [decide_eq_true hmu] at HMU
    clear hmu
    go_wp2_with (go_at_call 29; refine HMU.out.mono ?_; rintro e w3 ⟨rfl, rfl⟩)
    go_ret
    exact ⟨rfl, HX2.out⟩
  rw [decide_eq_false hmu] at HMU
  have hll : us.length ≤ 50000 := by
    have := tot_len (us.map byB)
    rw [List.length_map] at this
    omega
  have HTU : Hid (totP (us.map byB) ≤ 1000000000) := Lib.hid (by omega)
  clear hmu
  go_upto_region 5 with (go_at_call 29; refine HMU.out.mono ?_; rintro e w3 ⟨rfl, rfl⟩)
  clear HMU
  have hNW := ((HU.out.ext HX2.out).ext ((Ext.refl w2).alloc (.cells #[] 9))).news HZ.out
  have HNW := Lib.hid hNW
  clear hNW
  go_upto_region 6 with (first
    | (at_builtin; refine wpList_appK rfl (.tmp 17) (.tmp 18) 43 rfl w2.heap.size 9 (.string ⟨#[]⟩) 16 Tryd.underlying43 info_str rfl _ _ (us.map Value.string) rfl (own_lit0 w2) HNW.out (by intro u hu; obtain ⟨x, _, rfl⟩ := List.mem_map.1 hu; rfl) (by simp; omega) (by simp; omega) (by simp) ?_; intro v5 w5 own5 hg5 _ _; have hK5 := (Keeps.refl (fun k => k = w2.heap.size) (w2.alloc (.cells #[] 9))).grown hg5 (fun k hk => .inr (by injection hk with hk; exact hk.symm)); have hsz5 : w2.heap.size + 1 ≤ w5.heap.size := (by have := hK5.size; rwa [World.size_alloc] at this); simp only [List.map_nil, List.nil_append] at own5; obtain ⟨A5, c5, hs5, hlc5⟩ := own5.shape; rw [List.length_map] at hs5 hlc5; subst hs5)
    | (at_builtin; refine wpList_appT rfl (.tmp 19) (.tmp 20) rfl w2.heap.size _ us rfl (own5.ext ((Ext.refl w5).alloc _)) w5.heap.size 1 ⟨#[45, 118]⟩ rfl ((Blk.new w5 _ _).cell 0) (by omega) (by rw [World.size_alloc]; omega) ?_; intro v6 w6 own6 hb6))
  have hx25 : Ext w2 w5 := ((Ext.refl w2).alloc (.cells #[] 9)).keeps hK5 (fun _ h1 h2 => by omega)
  have hx26 : Ext w2 w6 := Below.trans (hx25.alloc _) hb6
  have hn6 : (List.map Value.string (us ++ [(⟨#[45, 118]⟩ : ByteArray)])).length = us.length + 1 := by simp
  rcases own6.slice with ⟨_, h0⟩ | ⟨g6, c6, cur6, hs6, hg6, hb6', hlc6, hcm6, hcs6⟩
  · rw [h0] at hn6; cases hn6
  rw [hn6] at hs6 hlc6
  subst hs6
  have hlu : us.length ≤ c6 := by omega
  have hg6l := hb6'.lt
  have HO6 := Lib.hid own6
  have HB6 := Lib.hid hb6'
  have HX6 := Lib.hid (HX2.out.trans hx26)
  clear own5 hg5 hK5 hx25 own6 hb6 hb6' HNW hlc5 hsz5 hn6
  have hs26 := hx26.size
  have hs02 := HX2.out.size
  clear hx26
  have HPA := Lib.hid (fun W (hW : Ext w6 W) => oparse_any W (.slice (some ⟨g6, 0, none⟩) us.length c6) us A m (RdT.pre (HO6.out.ext hW) hlu) HTU.out (HE.out.ext (HX6.out.trans hW)) ((HX6.out.trans hW).cell HMX.out))
  have HRP := Lib.hid (fun W (hW : Ext w6 W) => rparse_any W (.slice BB us.length d) us (HU.out.ext (HX6.out.trans hW)) HTU.out)
  have htot := @parsed_tot (us.map byB)
  have hpl : (pO (parsedP (us.map byB))).pats.length ≤ 1000000000 := by
    have := HTU.out
    cases hR : parsedP (us.map byB) with
    | error k => simp [pO, zeroO]
    | ok q => have h1 := htot hR; have h2 := tot_len q.pats; show q.pats.length ≤ _; omega
  generalize parsedP (us.map byB) = R at *
  clear htot
  go_upto_region 7 with (first
    | (go_at_call 30; refine (HPA.out _ (Ext.refl _)).mono ?_; rintro e w7 ⟨ov7, ev7, rfl, hx7, ⟨pv7, ps7, rfl, how7, hps7⟩, hf7⟩)
    | (refine wpl_allocOp rfl rfl ?_; intro z w8 hz hx8 hz0 hzl)
    | (refine wpl_storeOp rfl _ _ rfl rfl z (pO R) zeroO pv7 (.slice none 0 0) rfl rfl (own_isS how7) hz ?_; intro w9 hz9 hk9))
  have hx79 : Ext w7 w9 := hx8.keeps hk9 (fun _ h1 h2 => by omega)
  have hs67 := hx7.size
  have hs79 := hx79.size
  have HX9 := Lib.hid (hx7.trans hx79)
  have HZ9 := Lib.hid hz9
  have HO9 := Lib.hid (how7.ext hx79)
  have HF9 := Lib.hid (hf7.ext hx79)
  have hown7 : ∀ i, pv7.ownBlock = some i → i < w7.heap.size := how7.own_lt
  have hzl9 := hz9.lt
  clear hx7 how7 hf7 hz hx8 hk9 hz9 hx79 hzl
  go_upto_region 8 with (first
    | (go_at_call 30; refine (HPA.out _ HX9.out).mono ?_; rintro e w10 ⟨ov10, ev10, rfl, hx10, ⟨pv10, ps10, rfl, how10, hps10⟩, hf10⟩)
    | (refine wpl_allocOp rfl rfl ?_; intro y w11 hy hx11 hy0 hyl)
    | (refine wpl_storeOp rfl _ _ rfl rfl y (pO R) zeroO pv10 (.slice none 0 0) rfl rfl (own_isS how10) hy ?_; intro w12 hy12 hk12))
  have hx1012 : Ext w10 w12 := hx11.keeps hk12 (fun _ h1 h2 => by omega)
  have hs910 := hx10.size
  have hs1012 := hx1012.size
  have HX912 := Lib.hid (hx10.trans hx1012)
  have HX12 := Lib.hid (HX9.out.trans HX912.out)
  have HY12 := Lib.hid hy12
  have HO12 := Lib.hid (how10.ext hx1012)
  have hyl12 := hy12.lt
  clear hx10 how10 hf10 hy hx11 hk12 hy12 hx1012 hyl HPA
  go_upto_region 9 with (first
    | (go_at_call 31; refine (HRP.out _ HX12.out).mono ?_; rintro e w13 ⟨ov13, rfl, hx13, ⟨pv13, ps13, rfl, how13, hps13⟩⟩)
    | (refine wpl_allocOp rfl rfl ?_; intro x w14 hx hx14 hxx0 hxl)
    | (refine wpl_storeOp rfl _ _ rfl rfl x (pO R) zeroO pv13 (.slice none 0 0) rfl rfl (own_isS how13) hx ?_; intro w15 hx15 hk15))
  have hx1315 : Ext w13 w15 := hx14.keeps hk15 (fun _ h1 h2 => by omega)
  have hs1213 := hx13.size
  have hs1315 := hx1315.size
  have e10 : ps10 = ps7 := byB_map_inj (hps10.trans hps7.symm)
  have e13 : ps13 = ps7 := byB_map_inj (hps13.trans hps7.symm)
  subst e10 e13
  have hpl' : ps13.length ≤ 1000000000 := by rw [← hps13, List.length_map] at hpl; exact hpl
  have HX15 := Lib.hid (HX12.out.trans (hx13.trans hx1315))
  have HXA := Lib.hid (HX6.out.trans HX15.out)
  have HXX := Lib.hid hx15
  have HZ15 := Lib.hid (HZ9.out.ext (HX912.out.trans (hx13.trans hx1315)))
  have HY15 := Lib.hid (HY12.out.ext (hx13.trans hx1315))
  have HO15 := Lib.hid (HO9.out.ext (HX912.out.trans (hx13.trans hx1315)))
  have HP15 := Lib.hid (HO12.out.ext (hx13.trans hx1315))
  have HR15 := Lib.hid (how13.ext hx1315)
  have HF15 := Lib.hid (HF9.out.ext (HX912.out.trans (hx13.trans hx1315)))
  have HNU := Lib.hid (fun W (hW : Ext w15 W) => num_ferr A (pN R) (pL R) ev7 W (HF15.out.ext hW) (HE.out.ext (HXA.out.trans hW)))
  have HNI := Lib.hid (fun W (hW : Ext w15 W) => numIndex_any A (pN R) (pL R) ev7 W (HF15.out.ext hW) ((HXA.out.trans hW).cell HT.out))
  rw [code_pN] at HNU
  rw [index_pP] at HNI
  have HS1 := Lib.hid (fun W (hW : Ext w15 W) => same28_any (pO R) (pO R) ps13 ps13 pv7 pv13 W (RdT.of_own (HO15.out.ext hW)) (RdT.of_own (HR15.out.ext hW)) (by omega))
  have HS2 := Lib.hid (fun W (hW : Ext w15 W) => sameT_any us us (.slice (some ⟨g6, 0, none⟩) us.length c6) (.slice BB us.length d) W (RdT.pre (HO6.out.ext (HX15.out.trans hW)) hlu) (HU.out.ext (HXA.out.trans hW)) (by omega))
  have HS3 := Lib.hid (fun W (h1 : RdT W pv10 ps13) (h2 : RdT W pv13 ps13) => same28_any (pO R) (pO R) ps13 ps13 pv10 pv13 W h1 h2 (by omega))
  simp only [sameH_self, decide_true, Bool.and_self] at HS1 HS2 HS3
  have HC : Hid (∀ W, Ext w15 W → W.cell? ⟨g6, us.length, none⟩ = some (.string ⟨#[45, 118]⟩) ∧ W.cell? ⟨z, 8, none⟩ = some pv7) := Lib.hid (fun W hW => ⟨last_cell (HO6.out.ext (HX15.out.trans hW)), (HZ15.out.ext hW).cell 8⟩)
  generalize pN R = N at *
  generalize pP R = PP at *
  clear hx13 how13 hx14 hk15 hx hx15 hx1315 hps10 hps7 hps13 HF9 HF15 hpl HRP hxl
  obtain ⟨A7, c7, hs7, hlc7⟩ := HO15.out.shape
  rw [List.length_map] at hs7 hlc7
  subst hs7
  go_upto_region 11 with (first
    | (refine wpList_unguard rfl ?_; refine wpl_loadOp rfl _ rfl z 0 (pO R) _ rfl (Blk.opAt (HZ15.out.ext (hx16.trans hx17))) ?_)
    | (refine wpList_unguard rfl ?_; refine wpl_loadOp rfl _ rfl x 0 (pO R) _ rfl (Blk.opAt (HXX.out.ext (hx16.trans hx17))) ?_)
    | (go_at_call 18; refine (HNU.out _ (Ext.refl _)).mono ?_; rintro e w16 ⟨rfl, hx16⟩)
    | (go_at_call 32; refine (HNI.out _ hx16).mono ?_; rintro e w17 ⟨rfl, hx17⟩)
    | (go_at_call 33; refine (HS1.out _ (hx16.trans hx17)).mono ?_; rintro e w18 ⟨rfl, hx18⟩)
    | (go_at_call 34; refine (HS2.out _ ((hx16.trans hx17).trans hx18)).mono ?_; rintro e w19 ⟨rfl, hx19⟩; obtain ⟨c74, c78⟩ := HC.out _ (((hx16.trans hx17).trans hx18).trans hx19)))
  have hx19' : Ext w15 w19 := ((hx16.trans hx17).trans hx18).trans hx19
  have hs1519 := hx19'.size
  have HX19 := Lib.hid hx19'
  have HO19 := Lib.hid (HO15.out.ext hx19')
  have HZ19 := Lib.hid (HZ15.out.ext hx19')
  have HY19 := Lib.hid (HY15.out.ext hx19')
  have HXX19 := Lib.hid (HXX.out.ext hx19')
  have HP19 := Lib.hid (HP15.out.ext hx19')
  have HR19 := Lib.hid (HR15.out.ext hx19')
  have HB19 := Lib.hid (HB6.out.ext (HX15.out.trans hx19'))
  have hstart : ∀ i, (Value.slice A7 ps13.length c7).ownBlock = some i → ∃ cur', Blk w19 i 9 cur' ∧ ps13.length ≤ cur'.size := by
    rcases HO19.out.slice with ⟨h, _⟩ | ⟨g, cap, cur, h, _, hb, hlc, _, hcs⟩
    · injection h with h _ _
      subst h
      intro i hi
      cases hi
    · injection h with h _ _
      subst h
      intro i hi
      injection hi with hi
      subst hi
      exact ⟨cur, hb, by rw [List.length_map] at hlc; omega⟩
  have HST := Lib.hid hstart
  clear hstart hx16 hx17 hx18 hx19 hx19' HNU HNI HS1 HS2 HC c74 HZ15 HO15 HY15 HXX HP15 HR15 HZ9 HO9 HO12 HY12
  have hyl0 := hy0
  have hxl0 := hxx0
  go_wp2
  go_loopw [80] (fun iv wr => ∃ k : Nat, k ≤ ps13.length ∧ iv = .int .i64 k ∧ Keeps (fun i => (Value.slice A7 ps13.length c7).ownBlock = some i) w19 wr ∧ ∀ i, (Value.slice A7 ps13.length c7).ownBlock = some i → ∃ cur', Blk wr i 9 cur' ∧ ps13.length ≤ cur'.size) (fun iv _ => ps13.length - (intOf iv).toNat)
  case atStart => exact ⟨0, Nat.zero_le _, rfl, Keeps.refl _ _, HST.out⟩
  case round =>
    obtain ⟨k, hk, rfl, hK, hcur⟩ := hrel
    have HKK := Lib.hid hK
    have HCU := Lib.hid hcur
    obtain ⟨w20, hw20⟩ : ∃ w, w = wr := ⟨_, rfl⟩
    subst hw20
    clear hcur
    by_cases hlt : k < ps13.length
    · have q9 : (k : Int) < (ps13.length : Int) := by omega
      rcases HO19.out.slice with ⟨_, h0⟩ | ⟨g7, cap, cur7, hs7, hg7, _, _, _, _⟩
      · have h0' := congrArg List.length h0
        rw [List.length_map, List.length_nil] at h0'
        omega
      injection hs7 with hA7 e8 e9
      clear e8 e9
      subst hA7
      obtain ⟨cur', hb, hsz⟩ := HCU.out g7 rfl
      have hzg : z ≠ g7 := by have := hown7 g7 rfl; omega
      have c78 : w20.cell? ⟨z, 8, none⟩ = some (.slice (some ⟨g7, 0, none⟩) ps13.length c7) := (HZ19.out.keeps hK (fun h => hzg (by injection h with h; exact h.symm))).cell 8
      have ck : w20.cell? ⟨g7, k, none⟩ = some (cur'[k]'(by omega)) := by rw [hb.cell, Array.getElem?_eq_getElem]
      have fk := hb.frozen k
      have HBB := Lib.hid hb
      clear hb hK hcm6 hcs6
      go_wp2
      go_roundw
      case rel => exact ⟨k + 1, hlt, by go_num, HKK.out.setCell (p := ⟨g7, k, none⟩) (.inr rfl) _, fun i hi => ⟨_, by injection hi with hi; subst hi; exact HBB.out.set k _, by simpa using hsz⟩⟩
      case measure => simp [intOf]; omega
    · have q9 : ¬ (k : Int) < (ps13.length : Int) := by omega
      have hne6 : ∀ g, (Value.slice A7 ps13.length c7).ownBlock = some g → w6.heap.size ≤ g ∧ g < w7.heap.size := fun g hg => ⟨(HO19.out.own g hg).1, hown7 g hg⟩
      have HB20 := Lib.hid (HB19.out.keeps hK (fun h => by have := hne6 _ h; omega))
      have HY20 := Lib.hid (HY19.out.keeps hK (fun h => by have := hne6 _ h; omega))
      have HX20 := Lib.hid (HXX19.out.keeps hK (fun h => by have := hne6 _ h; omega))
      have HP20 := Lib.hid (HP19.out.keeps hK (fun i hi h => by have := hne6 _ h; have := (HP19.out.own i hi).1; omega))
      have HR20 := Lib.hid (HR19.out.keeps hK (fun i hi h => by have := hne6 _ h; have := (HR19.out.own i hi).1; omega))
      have HE20 := Lib.hid ((HXA.out.trans HX19.out).keeps hK (fun i h1 h => by have := hne6 _ h; omega))
      have hs1920 := hK.size
      clear hK hne6
      go_wp2
      go_loopw [90] (fun iv wr => ∃ (k : Nat) (cur' : Array Value), k ≤ us.length + 1 ∧ iv = .int .i64 k ∧ Blk wr g6 9 cur' ∧ cur'.size = c6 ∧ Keeps (· = g6) w20 wr) (fun iv _ => us.length + 1 - (intOf iv).toNat)
      case atStart => exact ⟨0, _, Nat.zero_le _, rfl, HB20.out, hcs6, Keeps.refl _ _⟩
      case round =>
        obtain ⟨j, cur', hj, rfl, hb, hsz, hK⟩ := hrel
        have HBB := Lib.hid hb
        have HKK := Lib.hid hK
        by_cases hlt : j < us.length + 1
        · have q9 : (j : Int) < (us.length : Int) + 1 := by omega
          have ck : wr.cell? ⟨g6, j, none⟩ = some (cur'[j]'(by omega)) := by rw [hb.cell, Array.getElem?_eq_getElem]
          have fk := hb.frozen j
          clear hb hK hcm6
          go_wp2
          go_roundw
          case rel => exact ⟨j + 1, _, hlt, by go_num, HBB.out.set j _, by simpa using hsz, HKK.out.setCell (.inr rfl) _⟩
          case measure => simp [intOf]; omega
        · have q9 : ¬ (j : Int) < (us.length : Int) + 1 := by omega
          have HYF := Lib.hid (HY20.out.keeps hK (fun h => by omega))
          have HXF := Lib.hid (HX20.out.keeps hK (fun h => by omega))
          have h1 := RdT.of_own (HP20.out.keeps hK (fun i hi h => by have := (HP20.out.own i hi).1; omega))
          have h2 := RdT.of_own (HR20.out.keeps hK (fun i hi h => by have := (HR20.out.own i hi).1; omega))
          have HEF := Lib.hid (HE20.out.keeps hK (fun i h1 h => by omega))
          have HS4 := Lib.hid (HS3.out wr h1 h2)
          clear hb hK h1 h2
          go_wp2_with (first
            | (refine wpl_loadOp rfl _ rfl y 0 (pO R) _ rfl (Blk.opAt HYF.out) ?_)
            | (refine wpl_loadOp rfl _ rfl x 0 (pO R) _ rfl (Blk.opAt HXF.out) ?_)
            | (go_at_call 33; refine HS4.out.mono ?_; rintro e w21 ⟨rfl, hx21⟩))
          go_ret
          exact ⟨rfl, HEF.out.trans hx21⟩

end Go.Proofs.YtkcgbdoplhgbmaaDoor
