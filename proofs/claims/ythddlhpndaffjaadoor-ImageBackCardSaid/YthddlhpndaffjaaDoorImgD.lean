/- trawlref09.number and Node as contracts. Condition: the tree lies in memory, is in form, its lists and its bytes are short. -/
import Derived.Test.YthddlhpndaffjaaDoorImgB
namespace Go.Proofs.YthddlhpndaffjaaDoor
open Go Go.RowKit

/-- What a call answers that makes bytes. -/
def RetN (w : World) (l : List UInt8) (r : Ending) (w' : World) : Prop := ∃ v, r = .returned v ∧ OwnB w' w.heap.size v l ∧ Ext w w'
theorem OwnB.new {w1 : World} {g B n : Nat} {cs : Array Value} {l : List UInt8} (h : Blk w1 g 5 cs) (hB : B ≤ g) (hc : cs.toList = bvs l) (hn : n = l.length) (hm : n ≤ 1000000000) : OwnB w1 B (.slice (some ⟨g, 0, none⟩) n n) l := by
  subst hn
  have hlen : cs.size = l.length := by rw [← Array.length_toList, hc, bvs_len]
  refine ⟨by rw [bvs_len]; simp, .inr ⟨g, l.length, cs, by rw [bvs_len], hB, h, by rw [bvs_len]; exact Nat.le_refl _, by simp only [maxLen]; omega, by rw [hlen]; simp, ?_⟩⟩
  rw [hc, List.take_of_length_le (by simp)]
theorem OwnB.one {w1 : World} {g B n : Nat} (h : Blk w1 g 5 #[.int .u8 n]) (hB : B ≤ g) (hn : n < 256) : OwnB w1 B (.slice (some ⟨g, 0, none⟩) 1 1) [b8 n] := OwnB.new h hB (by simp [bvs, bv_b8 hn]) rfl (by decide)
theorem OwnB.mono {w : World} {B B' : Nat} {v : Value} {l : List UInt8} (h : OwnB w B v l) (hB : B' ≤ B) : OwnB w B' v l := Own1.mono h hB

set_option maxRecDepth 100000 in
set_option maxHeartbeats 4000000 in
theorem number09_any : ∀ (n : Nat) (w : World), n < 1000000 → Calls Tryd.prog 83 #[.int .i64 n] w (RetN w (numB n)) := by
  intro n
  induction n using Nat.strongRecOn with
  | _ n ih =>
    intro w hn
    by_cases h1 : n < 128
    · have HN := Lib.hid (numB_small h1)
      have d1 : (n : Int) < 128 := by omega
      have q3 : (n : Int) % 256 = (n : Int) := by omega
      clear ih
      go_enter Tryd.func83, Tryd.ntmps83
      go_wp2_with (refine wpl_oneB rfl _ rfl n rfl ?_; intro g6 w6 hg6 hx6 e6)
      go_ret
      exact ⟨.slice (some ⟨g6, 0, none⟩) 1 1, rfl, by rw [HN.out]; exact OwnB.one hg6 e6 (by omega), hx6⟩
    · have HN := Lib.hid (numB_big (show 128 ≤ n by omega))
      have IH := Lib.hid (fun W => ih (n / 128) (by omega) W (by omega))
      have hlen := numB_len (show n / 128 < 16384 by omega)
      have d1 : ¬ (n : Int) < 128 := by omega
      have q1 : (128 : Int) + (n : Int) % 128 = ((128 + n % 128 : Nat) : Int) := by omega
      have q3 : ((128 + n % 128 : Nat) : Int) % 256 = ((128 + n % 128 : Nat) : Int) := by omega
      have hq : 128 + n % 128 < 256 := by omega
      clear ih
      generalize 128 + n % 128 = q at *
      generalize numB (n / 128) = l2 at *
      go_enter Tryd.func83, Tryd.ntmps83
      go_wp2_with (first
        | (refine wpl_oneB rfl _ rfl q rfl ?_; intro g6 w6 hg6 hx6 e6)
        | (go_at_call 83; refine (IH.out _).mono ?_; rintro e w7 ⟨v7, rfl, hL7, hx7⟩)
        | (refine wpl_appBs rfl _ _ rfl w.heap.size w6.heap.size (.slice (some ⟨g6, 0, none⟩) 1 1) v7 [b8 q] l2 rfl rfl (OwnB.one (hg6.ext hx7) e6 hq) hL7 (Nat.le_trans hx6.size hx7.size) (by simp) (by omega) ?_; intro v8 w8 hL8 g8))
      go_ret
      exact ⟨v8, rfl, by rw [HN.out]; exact hL8, g8.ext (OwnB.one (hg6.ext hx7) e6 hq) (hx6.trans hx7) (Nat.le_refl _)⟩

set_option maxRecDepth 100000 in
set_option maxHeartbeats 8000000 in
theorem node09_any : ∀ (n : Nd) (sv : Value) (w : World), NdOk w n sv → formB n = true → shortN n → (imgN n).length ≤ 100000000 →
    Calls Tryd.prog 60 #[nodeV n.h sv] w (RetN w (imgN n)) := by
  refine Nd.ind fun hd subs ih sv w hn hf hsh hlen => ?_
  obtain ⟨A, c, rfl⟩ := hn.shape
  rw [formB, Bool.and_eq_true] at hf
  obtain ⟨hf1, hf2⟩ := hf
  obtain ⟨hs1, hs2⟩ := hsh
  have IH := Lib.hid (fun n hm sv w hn hl => ih n hm sv w hn (formL_mem hf2 n hm) (shortL_mem hs2 n hm) hl)
  have HN := Lib.hid hn
  have HF := Lib.hid hf1
  have HIMG := Lib.hid (show imgN (.mk hd subs) = b8 hd.kind.toNat :: (headB hd subs.length ++ imgL subs) by rw [imgN])
  obtain ⟨hk1, hk2⟩ := kind_range hf1
  rw [HIMG.out] at hlen
  simp only [List.length_cons, List.length_append] at hlen
  clear ih hn hf1 hf2 hs2
  generalize imgN (.mk hd subs) = res at *
  simp only [Nd.h, Nd.subs] at *
  go_enter Tryd.func60, Tryd.ntmps60
  go_upto_region 1 with (refine wpl_boxNd rfl _ rfl hd _ rfl ?_; intro b w1 hb hx1 eb sb)
  have c0 : w1.cell? ⟨b, 0, none⟩ = some (.int .i64 hd.kind) := hb.cell 0
  obtain ⟨kk, hkk⟩ : ∃ kk : Nat, hd.kind = kk := ⟨hd.kind.toNat, by omega⟩
  have hk256 : kk < 256 := by omega
  rw [hkk] at c0
  have q0 : (kk : Int) % 256 = (kk : Int) := by omega
  go_cut [3] (fun v' wx => OwnB wx w.heap.size v' [b8 kk] ∧ Ext w1 wx)
  case first =>
    go_wp2_with (refine wpl_oneB rfl _ rfl kk rfl ?_; intro g6 w6 hg6 hx6 e6)
    go_meet
    case rel => exact ⟨OwnB.one hg6 (Nat.le_trans hx1.size e6) hk256, hx6⟩
  obtain ⟨hL7, hx7⟩ := hcut
  generalize wc = w7 at *
  obtain ⟨v7, rfl⟩ : ∃ v7, v7 = u3 := ⟨_, rfl⟩
  have hb7 := hb.ext hx7
  have hxw7 := hx1.trans hx7
  clear hb hx1 c0 hx7 q0 hk256
  go_step
  go_step
  go_cut [3] (fun v' wx => OwnB wx w.heap.size v' ([b8 kk] ++ headB hd subs.length) ∧ Blk wx b 27 (nodeA hd (.slice A subs.length c)) ∧ Ext w wx)
  case first =>
    clear IH HN HIMG
    have c0 : w7.cell? ⟨b, 0, none⟩ = some (.int .i64 hd.kind) := hb7.cell 0
    have c5 : w7.cell? ⟨b, 5, none⟩ = some (.slice A subs.length c) := hb7.cell 5
    have hB7 : w.heap.size ≤ w7.heap.size := hxw7.size
    rw [hkk] at c0
    have ht : 5 ≠ 27 := by decide
    have hl5 := numB_len hs1
    by_cases h2 : kk = 2
    · subst h2
      have HH := Lib.hid (headB2 (l := subs.length) hkk)
      have HX := Lib.hid (setB_len hd.set)
      have HW := Lib.hid (byteAt hd.set)
      have HWL := Lib.hid (wd_lt hd.set)
      have HC := Lib.hid (fun W (hW : Blk W b 27 (nodeA hd (.slice A subs.length c))) i (hi : i < 4) => (show W.cell? ⟨b, 1 + i, none⟩ = some (.int .u64 (wd hd.set i : Int)) by
        rw [hW.cell]
        rcases (show i = 0 ∨ i = 1 ∨ i = 2 ∨ i = 3 by omega) with rfl | rfl | rfl | rfl <;> rfl))
      have hL70 : OwnB w7 w.heap.size v7 ([b8 2] ++ (setB hd.set).take (8 * 0)) := by simpa using hL7
      generalize setB hd.set = sb8 at *
      clear c5 hlen hl5
      go_wp2
      clear c0
      go_loopw [3, 4] (fun v' t wr => ∃ i : Nat, i ≤ 4 ∧ t = .int .i64 i ∧ OwnB wr w.heap.size v' ([b8 2] ++ sb8.take (8 * i)) ∧ Blk wr b 27 (nodeA hd (.slice A subs.length c)) ∧ Ext w wr) (fun _ t _ => 4 - (intOf t).toNat)
      case atStart => exact ⟨0, by omega, rfl, hL70, hb7, hxw7⟩
      case round =>
        clear hL70 hL7 hb7 hxw7
        obtain ⟨i, hi, rfl, hLi, hbi, hxi⟩ := hrel
        by_cases hlt : i < 4
        · have HB := Lib.hid (fun j hj => HW.out i j hlt hj)
          have hxl := HWL.out i
          have ci := HC.out wr hbi i hlt
          have d1 : (i : Int) < 4 := by omega
          generalize wd hd.set i = x at *
          have hL0 : OwnB wr w.heap.size u3 ([b8 2] ++ sb8.take (8 * i + 0)) := hLi
          have hx0 : ((x / 2 ^ (8 * 0) : Nat) : Int) = (x : Int) := by simp
          have HX0 := Lib.hid hx0
          clear hx0
          go_wp2
          clear ci
          go_loopw [3, 5, 6] (fun v' y t ws => ∃ j : Nat, j ≤ 8 ∧ t = .int .i64 j ∧ y = .int .u64 ((x / 2 ^ (8 * j) : Nat) : Int) ∧ OwnB ws w.heap.size v' ([b8 2] ++ sb8.take (8 * i + j)) ∧ Blk ws b 27 (nodeA hd (.slice A subs.length c)) ∧ Ext w ws) (fun _ _ t _ => 8 - (intOf t).toNat)
          case atStart => exact ⟨0, by omega, rfl, by rw [HX0.out], hL0, hbi, hxi⟩
          case round =>
            clear hL0 hLi hbi hxi
            obtain ⟨j, hj, rfl, rfl, hLj, hbj, hxj⟩ := hrel
            by_cases hjt : j < 8
            · have d2 : (j : Int) < 8 := by omega
              have HQ := Lib.hid (HB.out j hjt)
              have hyl : x / 2 ^ (8 * j) < 18446744073709551616 := Nat.lt_of_le_of_lt (Nat.div_le_self _ _) hxl
              have HS := Lib.hid (show x / 2 ^ (8 * (j + 1)) = x / 2 ^ (8 * j) / 256 by rw [Nat.div_div_eq_div_mul, show 8 * (j + 1) = 8 * j + 8 by omega, Nat.pow_add])
              have hlj : ([b8 2] ++ sb8.take (8 * i + j)).length ≤ 1000000000000 := by
                have := HX.out
                simp only [List.length_append, List.length_singleton, List.length_take]
                omega
              generalize x / 2 ^ (8 * j) = y at *
              have hq256 : y % 256 < 256 := Nat.mod_lt _ (by decide)
              have hBj : w.heap.size ≤ wr.heap.size := hxj.size
              have hq8 := Lib.hid (congrArg (Value.int .u8) (show (y : Int) % 256 = ((y % 256 : Nat) : Int) by omega))
              go_wp2_with (first
                | (refine wpl_oneB rfl _ rfl (y % 256) hq8.out ?_; intro g6 w6 hg6 hx6 e6)
                | (refine wpl_appB1 rfl _ _ rfl w.heap.size u3 ([b8 2] ++ sb8.take (8 * i + j)) (y % 256) g6 1 hq256 rfl rfl (hLj.ext hx6) (Nat.le_trans hBj hx6.size) hg6 hlj ?_; intro va wa hLa ga))
              have hba := (ga.blk (hbj.ext hx6) ((hLj.ext hx6).ne (hbj.ext hx6) ht)).1
              have hxa := ga.ext (hLj.ext hx6) (hxj.trans hx6) (Nat.le_refl _)
              clear hLj hbj hxj hx6 hg6 e6 ga
              go_roundw
              case rel => exact ⟨j + 1, by omega, by go_num, by rw [HS.out]; congr 1, by rw [show 8 * i + (j + 1) = 8 * i + j + 1 by omega, HQ.out, ← List.append_assoc]; exact hLa, hba, hxa⟩
              case measure => simp [intOf]; omega
            · have hj8 : j = 8 := by omega
              subst hj8
              have d2 : ¬ ((8 : Nat) : Int) < 8 := by omega
              have hLj' : OwnB wr w.heap.size u3 ([b8 2] ++ sb8.take (8 * (i + 1))) := hLj
              clear hLj
              go_wp2
              go_roundw
              case rel => exact ⟨i + 1, by omega, by go_num, hLj', hbj, hxj⟩
              case measure => simp [intOf]; omega
        · have hi4 : i = 4 := by omega
          subst hi4
          have HT := Lib.hid (show sb8.take (8 * 4) = sb8 from List.take_of_length_le (by rw [HX.out]; omega))
          rw [HT.out] at hLi
          go_wp2
          go_meet
          case rel => exact ⟨by rw [HH.out]; exact hLi, hbi, hxi⟩
    by_cases h5 : kk = 5 ∨ kk = 6
    · have HH := Lib.hid (headB5 (l := subs.length) (show hd.kind = 5 ∨ hd.kind = 6 by omega))
      have HC := Lib.hid (number09_any subs.length w7 (by omega))
      rcases h5 with rfl | rfl
      all_goals
        go_wp2_with (first
          | (go_at_call 83; refine HC.out.mono ?_; rintro e w8 ⟨v8, rfl, hL8, hx8⟩)
          | (refine wpl_appBs rfl _ _ rfl w.heap.size w7.heap.size v7 v8 _ (numB subs.length) rfl rfl (hL7.ext hx8) hL8 (Nat.le_trans hB7 hx8.size) (by simp) (by omega) ?_; intro v9 w9 hL9 g9))
        go_meet
        case rel => exact ⟨by rw [HH.out]; exact hL9, (g9.blk (hb7.ext hx8) ((hL7.ext hx8).ne (hb7.ext hx8) ht)).1, g9.ext (hL7.ext hx8) (hxw7.trans hx8) (Nat.le_refl _)⟩
    by_cases h7 : kk = 7
    · subst h7
      have HH := Lib.hid (headB7 (l := subs.length) hkk)
      obtain ⟨hn1, hn2⟩ := formed_num HF.out hkk
      obtain ⟨nn, hnn⟩ : ∃ nn : Nat, hd.num = nn := ⟨hd.num.toNat, by omega⟩
      have c6 : w7.cell? ⟨b, 6, none⟩ = some (.int .i64 hd.num) := hb7.cell 6
      rw [hnn] at c6 HH
      rw [Int.toNat_natCast] at HH
      have HC := Lib.hid (number09_any nn w7 (by omega))
      have hl7 := numB_len (show nn < 16384 by omega)
      clear hnn hn1 hn2 h2 h5
      go_wp2_with (first
        | (go_at_call 83; refine HC.out.mono ?_; rintro e w8 ⟨v8, rfl, hL8, hx8⟩)
        | (refine wpl_appBs rfl _ _ rfl w.heap.size w7.heap.size v7 v8 _ (numB nn) rfl rfl (hL7.ext hx8) hL8 (Nat.le_trans hB7 hx8.size) (by simp) (by omega) ?_; intro v9 w9 hL9 g9))
      go_meet
      case rel => exact ⟨by rw [HH.out]; exact hL9, (g9.blk (hb7.ext hx8) ((hL7.ext hx8).ne (hb7.ext hx8) ht)).1, g9.ext (hL7.ext hx8) (hxw7.trans hx8) (Nat.le_refl _)⟩
    by_cases h8 : kk = 8
    · subst h8
      have HH := Lib.hid (headB8 (l := subs.length) hkk)
      obtain ⟨r1, r2, r3⟩ := formed_rep HF.out hkk
      obtain ⟨mn, hmn⟩ : ∃ mn : Nat, hd.min = mn := ⟨hd.min.toNat, by omega⟩
      obtain ⟨mx, hmx⟩ : ∃ mx : Nat, hd.max = (mx : Int) - 1 := ⟨(hd.max + 1).toNat, by omega⟩
      have c7 : w7.cell? ⟨b, 7, none⟩ = some (.int .i64 hd.min) := hb7.cell 7
      rw [hmn] at c7 HH
      rw [hmx] at HH
      rw [Int.toNat_natCast, show ((mx : Int) - 1 + 1).toNat = mx by omega] at HH
      have hm1 : mn < 1000000 := by omega
      have hm2 : mx < 1000000 := by omega
      have hl7 := numB_len (show mn < 16384 by omega)
      have hl8 := numB_len (show mx < 16384 by omega)
      have hq : IntKind.i64.wrap (mx : Int) = (mx : Int) := by rw [IntKind.wrap_i64]; omega
      have HMX := Lib.hid hmx
      clear h2 h5 h7 hmn hmx r1 r2 r3
      go_upto_region 20 with (first
        | (go_at_call 83; refine (number09_any mn w7 hm1).mono ?_; rintro e w8 ⟨v8, rfl, hL8, hx8⟩)
        | (refine wpl_appBs rfl _ _ rfl w.heap.size w7.heap.size v7 v8 _ (numB mn) rfl rfl (hL7.ext hx8) hL8 (Nat.le_trans hB7 hx8.size) (by simp) (by omega) ?_; intro v9 w9 hL9 g9))
      have hb9 := (g9.blk (hb7.ext hx8) ((hL7.ext hx8).ne (hb7.ext hx8) ht)).1
      have hx9 := g9.ext (hL7.ext hx8) (hxw7.trans hx8) (Nat.le_refl _)
      have c8 : w9.cell? ⟨b, 8, none⟩ = some (.int .i64 hd.max) := hb9.cell 8
      rw [HMX.out] at c8
      have hB9 := hx9.size
      clear c7 c5 c0 hL7 hb7 hxw7 hx8 hL8 g9
      go_upto_region 21 with (first
        | (go_at_call 83; refine (number09_any mx w9 hm2).mono ?_; rintro e wa ⟨va, rfl, hLa, hxa⟩)
        | (refine wpl_appBs rfl _ _ rfl w.heap.size w9.heap.size v9 va _ (numB mx) rfl rfl (hL9.ext hxa) hLa (Nat.le_trans hB9 hxa.size) (by simp; omega) (by omega) ?_; intro vb wb hLb gb))
      have hbb := (gb.blk (hb9.ext hxa) ((hL9.ext hxa).ne (hb9.ext hxa) ht)).1
      have hxb := gb.ext (hL9.ext hxa) (hx9.trans hxa) (Nat.le_refl _)
      have c9 : wb.cell? ⟨b, 9, none⟩ = some (.bool hd.bare) := hbb.cell 9
      have hBb := hxb.size
      have hlb : ([b8 8] ++ numB mn ++ numB mx).length ≤ 1000000000000 := by simp only [List.length_append, List.length_singleton]; omega
      clear c8 hL9 hb9 hx9 hxa hLa gb hq HMX
      cases hbare : hd.bare
      · rw [hbare] at c9 HH
        go_wp2_with (first
          | (refine wpl_oneB rfl _ rfl 0 rfl ?_; intro g6 w6 hg6 hx6 e6)
          | (refine wpl_appB1 rfl _ _ rfl w.heap.size vb ([b8 8] ++ numB mn ++ numB mx) 0 g6 1 (by decide) rfl rfl (hLb.ext hx6) (Nat.le_trans hBb hx6.size) hg6 hlb ?_; intro vd wd hLd gd))
        go_meet
        case rel => exact ⟨by rw [HH.out]; simpa [show b8 0 = (0 : UInt8) from rfl] using hLd, (gd.blk (hbb.ext hx6) ((hLb.ext hx6).ne (hbb.ext hx6) ht)).1, gd.ext (hLb.ext hx6) (hxb.trans hx6) (Nat.le_refl _)⟩
      · rw [hbare] at c9 HH
        go_wp2_with (first
          | (refine wpl_oneB rfl _ rfl 1 rfl ?_; intro g6 w6 hg6 hx6 e6)
          | (refine wpl_appB1 rfl _ _ rfl w.heap.size vb ([b8 8] ++ numB mn ++ numB mx) 1 g6 1 (by decide) rfl rfl (hLb.ext hx6) (Nat.le_trans hBb hx6.size) hg6 hlb ?_; intro vd wd hLd gd))
        go_meet
        case rel => exact ⟨by rw [HH.out]; simpa [show b8 1 = (1 : UInt8) from rfl] using hLd, (gd.blk (hbb.ext hx6) ((hLb.ext hx6).ne (hbb.ext hx6) ht)).1, gd.ext (hLb.ext hx6) (hxb.trans hx6) (Nat.le_refl _)⟩
    · have HH := Lib.hid (headB0 (l := subs.length) (show hd.kind ≠ 2 ∧ hd.kind ≠ 5 ∧ hd.kind ≠ 6 ∧ hd.kind ≠ 7 ∧ hd.kind ≠ 8 by omega))
      have n2 : ((kk : Int) == 2) = false := by rw [beq_eq_false_iff_ne]; omega
      have n5 : ((kk : Int) == 5) = false := by rw [beq_eq_false_iff_ne]; omega
      have n6 : ((kk : Int) == 6) = false := by rw [beq_eq_false_iff_ne]; omega
      have n7 : ((kk : Int) == 7) = false := by rw [beq_eq_false_iff_ne]; omega
      have n8 : ((kk : Int) == 8) = false := by rw [beq_eq_false_iff_ne]; omega
      clear h2 h5 h7 h8
      go_wp2
      go_meet
      case rel => exact ⟨by rw [HH.out, List.append_nil]; exact hL7, hb7, hxw7⟩
  obtain ⟨hL8, hb8, hx8⟩ := hcut
  generalize wc = w8 at *
  obtain ⟨v8, rfl⟩ : ∃ v8, v8 = u3 := ⟨_, rfl⟩
  have HL := Lib.hid (show res = [b8 kk] ++ headB hd subs.length ++ imgL subs by rw [HIMG.out, show hd.kind.toNat = kk by omega]; simp)
  have HT := Lib.hid (show ∀ k, k < subs.length → (imgL (subs.take (k + 1))).length ≤ (imgL subs).length from fun k hk => by
    have := imgL_app (subs.take (k + 1)) (subs.drop (k + 1))
    rw [List.take_append_drop] at this
    rw [this, List.length_append]
    omega)
  clear hL7 hb7 hxw7 HF HIMG hkk hk1 hk2
  generalize headB hd subs.length = hdr at *
  have hL80 : OwnB w8 w.heap.size v8 ([b8 kk] ++ hdr ++ imgL (subs.take 0)) := by rw [List.take_zero, imgL, List.append_nil]; exact hL8
  clear hL8
  have ht : 5 ≠ 27 := by decide
  go_step
  go_wp2
  go_loopw [3, 7] (fun v' t wr => ∃ k : Nat, k ≤ subs.length ∧ t = .int .i64 k ∧ OwnB wr w.heap.size v' ([b8 kk] ++ hdr ++ imgL (subs.take k)) ∧ Blk wr b 27 (nodeA hd (.slice A subs.length c)) ∧ Ext w wr) (fun _ t _ => subs.length - (intOf t).toNat)
  case atStart => exact ⟨0, Nat.zero_le _, rfl, hL80, hb8, hx8⟩
  case round =>
    clear hL80 hb8 hx8
    obtain ⟨k, hk, rfl, hLk, hbk, hxk⟩ := hrel
    have c5 : wr.cell? ⟨b, 5, none⟩ = some (.slice A subs.length c) := hbk.cell 5
    by_cases hlt : k < subs.length
    · obtain ⟨g0, o0, sv, rfl, hat, hok⟩ := HN.out.get k hlt
      replace hat := hat.ext hxk
      have HM := Lib.hid (show imgL (subs.take (k + 1)) = imgL (subs.take k) ++ imgN subs[k] by rw [take_snoc subs k hlt, imgL_app, imgL_one])
      have hlk : ([b8 kk] ++ hdr ++ imgL (subs.take k)).length + (imgN subs[k]).length ≤ 100000000 := by
        have h1 := HT.out k hlt
        rw [HM.out, List.length_append] at h1
        simp only [List.length_append, List.length_singleton]
        omega
      have IHk := Lib.hid (IH.out subs[k] (List.getElem_mem hlt) sv wr (hok.ext hxk) (by omega))
      have hBk : w.heap.size ≤ wr.heap.size := hxk.size
      clear IH HN hok HT
      generalize subs[k] = nk at *
      generalize imgN nk = im at *
      have d1 : (k : Int) < (subs.length : Int) := by omega
      go_wp2_with (first
        | (refine wpl_loadNd rfl _ rfl g0 (o0 + k * 10) nk.h sv rfl hat ?_)
        | (go_at_call 60; refine IHk.out.mono ?_; rintro e w6 ⟨v6, rfl, hL6, hx6⟩)
        | (refine wpl_appBs rfl _ _ rfl w.heap.size wr.heap.size u3 v6 _ im rfl rfl (hLk.ext hx6) hL6 (Nat.le_trans hBk hx6.size) (by omega) (by omega) ?_; intro v9 w9 hL9 g9))
      have hb9 := (g9.blk (hbk.ext hx6) ((hLk.ext hx6).ne (hbk.ext hx6) ht)).1
      have hx9 := g9.ext (hLk.ext hx6) (hxk.trans hx6) (Nat.le_refl _)
      clear hLk hbk hxk hx6 hL6 g9 hat c5 hlk
      go_roundw
      case rel => exact ⟨k + 1, by omega, by go_num, by rw [HM.out, ← List.append_assoc]; exact hL9, hb9, hx9⟩
      case measure => simp [intOf]; omega
    · have hkl : subs.take k = subs := List.take_of_length_le (by omega)
      rw [hkl] at hLk
      have hd1 : ¬ (k : Int) < (subs.length : Int) := by omega
      clear hkl IH HN HT
      go_wp2
      go_ret
      exact ⟨_, rfl, by rw [HL.out]; exact hLk, hxk⟩

end Go.Proofs.YthddlhpndaffjaaDoor
