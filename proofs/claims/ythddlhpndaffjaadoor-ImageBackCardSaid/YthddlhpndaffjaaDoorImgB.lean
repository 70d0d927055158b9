/- image.lay as a contract: a tree's bytes behind others. Condition: the tree lies in memory, is in form, its lists and the bytes are short. -/
import Derived.Test.YthddlhpndaffjaaDoorImgA
import Derived.Deep.RegionWith
namespace Go.Proofs.YthddlhpndaffjaaDoor
open Go Go.RowKit

theorem formed_num {h : Hd} {l : Nat} (hf : formedB h l = true) (hk : h.kind = 7) : 0 < h.num ∧ h.num ≤ 999 := by
  unfold formedB at hf
  rw [if_neg (by omega), if_neg (by omega), if_neg (by omega), if_pos hk] at hf
  simp only [Bool.and_eq_true, decide_eq_true_eq] at hf
  exact ⟨hf.1.1.1.1.1.2, hf.1.1.1.1.2⟩

/-- A byte of a word of a set. -/
theorem byteAt (p : Nat → Bool) (i j : Nat) (hi : i < 4) (hj : j < 8) : (setB p).take (8 * i + j + 1) = (setB p).take (8 * i + j) ++ [b8 (wd p i / 2 ^ (8 * j) % 256)] := by
  have h1 : 8 * i + j < (setB p).length := by rw [setB_len]; omega
  rw [List.take_add_one, List.getElem?_eq_getElem h1]
  simp only [Option.toList_some, setB, List.getElem_map, List.getElem_range]
  congr 3
  apply Nat.eq_of_testBit_eq
  intro k
  rw [testBit_ofBits, show (256 : Nat) = 2 ^ 8 from rfl, Nat.testBit_mod_two_pow, Nat.testBit_div_two_pow]
  by_cases hk : k < 8
  · rw [wd_bit _ _ _ (by omega), show 64 * i + (k + 8 * j) = 8 * (8 * i + j) + k by omega]
  · simp [hk]

theorem idx_set (p : Nat → Bool) (i : Nat) (hi : i < 4) (W : World) : (Instr.index 24 (.agg #[.int .u64 (wd p 0 : Int), .int .u64 (wd p 1 : Int), .int .u64 (wd p 2 : Int), .int .u64 (wd p 3 : Int)]) (.int .i64 i)).run Tryd.prog W = .ok (.int .u64 (wd p i : Int)) W := by
  rcases (show i = 0 ∨ i = 1 ∨ i = 2 ∨ i = 3 by omega) with rfl | rfl | rfl | rfl
  all_goals simp [Instr.index, run_underlying Tryd.underlying24, asIntOf, go_sem]

set_option maxRecDepth 100000 in
set_option maxHeartbeats 8000000 in
theorem lay_any (w0 : World) : ∀ (n : Nd) (sv v : Value) (l : List UInt8) (w : World), NdOk w0 n sv → formB n = true → shortN n → Ext w0 w → AppB w w0.heap.size v l → l.length + (imgN n).length ≤ 100000000 →
    Calls Tryd.prog 59 #[v, nodeV n.h sv] w (RetG w w0.heap.size v (l ++ imgN n)) := by
  refine Nd.ind fun hd subs ih sv v l w hn hf hsh hx hL hlen => ?_
  obtain ⟨A, c, rfl⟩ := hn.shape
  rw [formB, Bool.and_eq_true] at hf
  obtain ⟨hf1, hf2⟩ := hf
  obtain ⟨hs1, hs2⟩ := hsh
  have IH := Lib.hid (fun n hm sv v l w hn hx hL hl => ih n hm sv v l w hn (formL_mem hf2 n hm) (shortL_mem hs2 n hm) hx hL hl)
  have HN := Lib.hid hn
  have HF := Lib.hid hf1
  have HIMG := Lib.hid (show imgN (.mk hd subs) = b8 hd.kind.toNat :: (headB hd subs.length ++ imgL subs) by rw [imgN])
  obtain ⟨hk1, hk2⟩ := kind_range hf1
  rw [HIMG.out] at hlen
  simp only [List.length_cons, List.length_append] at hlen
  clear ih hn hf1 hf2 hs2
  generalize imgN (.mk hd subs) = res at *
  simp only [Nd.h, Nd.subs] at *
  go_enter Tryd.func59, Tryd.ntmps59
  go_upto_region 1 with (refine wpl_boxNd rfl _ rfl hd _ rfl ?_; intro b w1 hb hx1 eb sb)
  have hL1 := hL.ext hx1
  have hxw1 := hx.trans hx1
  have g1 : Grew w w1 v v := Grew.of_ext v hx1
  have c0 : w1.cell? ⟨b, 0, none⟩ = some (.int .i64 hd.kind) := hb.cell 0
  have hB1 : w0.heap.size ≤ w1.heap.size := hxw1.size
  obtain ⟨kk, hkk⟩ : ∃ kk : Nat, hd.kind = kk := ⟨hd.kind.toNat, by omega⟩
  have hk256 : kk < 256 := by omega
  rw [hkk] at c0
  have q0 : (kk : Int) % 256 = (kk : Int) := by omega
  go_cut [0] (fun v' wx => OwnB wx w0.heap.size v' (l ++ [b8 kk]) ∧ Grew w1 wx v v')
  case first =>
    go_wp2_with (first
      | (refine wpl_oneB rfl _ rfl kk rfl ?_; intro g6 w6 hg6 hx6 e6)
      | (refine wpl_appA rfl _ _ rfl w0.heap.size v l kk g6 1 hk256 rfl rfl (hL1.ext hx6) (Nat.le_trans hB1 hx6.size) hg6 (by omega) ?_; intro v7 w7 hL7 g7))
    go_meet
    case rel => exact ⟨hL7, (Grew.of_ext _ hx6).trans g7⟩
  obtain ⟨hL7, g7⟩ := hcut
  generalize wc = w7 at *
  obtain ⟨v7, rfl⟩ : ∃ v7, v7 = u0 := ⟨_, rfl⟩
  have hvb := hL1.ne hb (by decide)
  obtain ⟨hb7, hvb7⟩ := g7.blk hb hvb
  have hxw7 := g7.extA hL1 hxw1 (Nat.le_refl _)
  have gw7 := g1.trans g7
  clear hL hx hb hx1 hL1 hxw1 g1 c0 hB1 hvb g7 q0 hk256
  go_step
  go_step
  go_cut [0] (fun v' wx => OwnB wx w0.heap.size v' (l ++ [b8 kk] ++ headB hd subs.length) ∧ Grew w7 wx v7 v')
  case first =>
    clear IH HN HIMG
    have c0 : w7.cell? ⟨b, 0, none⟩ = some (.int .i64 hd.kind) := hb7.cell 0
    have c5 : w7.cell? ⟨b, 5, none⟩ = some (.slice A subs.length c) := hb7.cell 5
    have hB7 : w0.heap.size ≤ w7.heap.size := hxw7.size
    rw [hkk] at c0
    by_cases h2 : kk = 2
    · subst h2
      have HH := Lib.hid (headB2 (l := subs.length) hkk)
      have HX := Lib.hid (setB_len hd.set)
      have hl1 : l.length ≤ 100000000 := by omega
      have c1 : w7.cell? ⟨b, 1, none⟩ = some (.int .u64 (wd hd.set 0 : Int)) := hb7.cell 1
      have c2 : w7.cell? ⟨b, 2, none⟩ = some (.int .u64 (wd hd.set 1 : Int)) := hb7.cell 2
      have c3 : w7.cell? ⟨b, 3, none⟩ = some (.int .u64 (wd hd.set 2 : Int)) := hb7.cell 3
      have c4 : w7.cell? ⟨b, 4, none⟩ = some (.int .u64 (wd hd.set 3 : Int)) := hb7.cell 4
      have HW := Lib.hid (byteAt hd.set)
      generalize hd.set = p at *
      have HWL := Lib.hid (wd_lt p)
      have hL70 : OwnB w7 w0.heap.size v7 (l ++ [b8 2] ++ (setB p).take (8 * 0)) := by simpa using hL7
      generalize setB p = sb8 at *
      clear hb7 hvb7 hxw7 gw7 c5 hlen
      go_wp2
      clear c0 c1 c2 c3 c4
      go_loopw [0, 23] (fun v' t wr => ∃ i : Nat, i ≤ 4 ∧ t = .int .i64 i ∧ OwnB wr w0.heap.size v' (l ++ [b8 2] ++ sb8.take (8 * i)) ∧ Grew w7 wr v7 v') (fun _ t _ => 4 - (intOf t).toNat)
      case atStart => exact ⟨0, by omega, rfl, hL70, Grew.refl _ _⟩
      case round =>
        clear hL70 hL7
        obtain ⟨i, hi, rfl, hLi, gi⟩ := hrel
        have hBi : w0.heap.size ≤ wr.heap.size := Nat.le_trans hB7 gi.keeps.size
        by_cases hlt : i < 4
        · have HB := Lib.hid (fun j hj => HW.out i j hlt hj)
          have hix : ∀ W, (Instr.index 24 (.agg #[.int .u64 (wd p 0 : Int), .int .u64 (wd p 1 : Int), .int .u64 (wd p 2 : Int), .int .u64 (wd p 3 : Int)]) (.int .i64 i)).run Tryd.prog W = .ok (.int .u64 (wd p i : Int)) W := idx_set p i hlt
          have hxl := HWL.out i
          have d1 : (i : Int) < 4 := by omega
          go_upto_region 7 with fail
          generalize wd p i = x at *
          have hL0 : OwnB wr w0.heap.size u0 (l ++ [b8 2] ++ sb8.take (8 * i + 0)) := hLi
          go_wp2
          clear hix
          go_loopw [0, 7] (fun v' t ws => ∃ j : Nat, j ≤ 8 ∧ t = .int .i64 (8 * j : Nat) ∧ OwnB ws w0.heap.size v' (l ++ [b8 2] ++ sb8.take (8 * i + j)) ∧ Grew w7 ws v7 v') (fun _ t _ => 64 - (intOf t).toNat)
          case atStart => exact ⟨0, by omega, rfl, hL0, gi⟩
          case round =>
            clear hL0 hLi gi
            obtain ⟨j, hj, rfl, hLj, gj⟩ := hrel
            by_cases hjt : j < 8
            · have d2 : ((8 * j : Nat) : Int) < 64 := by omega
              have HQ := Lib.hid (HB.out j hjt)
              have hq : (x : Int) / 2 ^ (8 * j) % 256 = ((x / 2 ^ (8 * j) % 256 : Nat) : Int) := by simp
              have hq256 : x / 2 ^ (8 * j) % 256 < 256 := Nat.mod_lt _ (by decide)
              have hlj : (l ++ [b8 2] ++ sb8.take (8 * i + j)).length ≤ 1000000000000 := by
                have := HX.out
                simp only [List.length_append, List.length_singleton, List.length_take]
                omega
              generalize x / 2 ^ (8 * j) % 256 = q at *
              have hBj : w0.heap.size ≤ wr.heap.size := Nat.le_trans hB7 gj.keeps.size
              have hq8 := Lib.hid (congrArg (Value.int .u8) hq)
              go_wp2_with (first
                | (refine wpl_oneB rfl _ rfl q hq8.out ?_; intro g6 w6 hg6 hx6 e6)
                | (refine wpl_appB1 rfl _ _ rfl w0.heap.size u0 (l ++ [b8 2] ++ sb8.take (8 * i + j)) q g6 1 hq256 rfl rfl (hLj.ext hx6) (Nat.le_trans hBj hx6.size) hg6 hlj ?_; intro va wa hLa ga))
              have gja := (gj.trans (Grew.of_ext _ hx6)).trans ga
              clear hLj gj hx6 hg6 e6 ga hq
              go_roundw
              case rel => exact ⟨j + 1, by omega, by go_num, by rw [show 8 * i + (j + 1) = 8 * i + j + 1 by omega, HQ.out, ← List.append_assoc]; exact hLa, gja⟩
              case measure => simp [intOf]; omega
            · have hj8 : j = 8 := by omega
              subst hj8
              have d2 : ¬ ((8 * 8 : Nat) : Int) < 64 := by omega
              have hLj' : OwnB wr w0.heap.size u0 (l ++ [b8 2] ++ sb8.take (8 * (i + 1))) := hLj
              clear hLj
              go_wp2
              go_roundw
              case rel => exact ⟨i + 1, by omega, by go_num, hLj', gj⟩
              case measure => simp [intOf]; omega
        · have hi4 : i = 4 := by omega
          subst hi4
          have HT := Lib.hid (show sb8.take (8 * 4) = sb8 from List.take_of_length_le (by rw [HX.out]; omega))
          rw [HT.out] at hLi
          go_wp2
          go_meet
          case rel => exact ⟨by rw [HH.out]; exact hLi, gi⟩
    by_cases h5 : kk = 5 ∨ kk = 6
    · have HH := Lib.hid (headB5 (l := subs.length) (show hd.kind = 5 ∨ hd.kind = 6 by omega))
      have HC := Lib.hid (number_any subs.length v7 (l ++ [b8 kk]) w0.heap.size w7 hL7 hB7 (by omega) (by rw [List.length_append]; simp; omega))
      rcases h5 with rfl | rfl
      all_goals
        go_wp2_with (go_at_call 82; refine HC.out.mono ?_; rintro e w8 ⟨v8, rfl, hL8, g8⟩)
        go_meet
        case rel => exact ⟨by rw [HH.out]; exact hL8, g8⟩
    by_cases h7 : kk = 7
    · subst h7
      have HH := Lib.hid (headB7 (l := subs.length) hkk)
      obtain ⟨hn1, hn2⟩ := formed_num HF.out hkk
      obtain ⟨nn, hnn⟩ : ∃ nn : Nat, hd.num = nn := ⟨hd.num.toNat, by omega⟩
      have c6 : w7.cell? ⟨b, 6, none⟩ = some (.int .i64 hd.num) := hb7.cell 6
      rw [hnn] at c6 HH
      rw [Int.toNat_natCast] at HH
      have HC := Lib.hid (number_any nn v7 (l ++ [b8 7]) w0.heap.size w7 hL7 hB7 (by omega) (by rw [List.length_append]; simp; omega))
      clear hnn hn1 hn2 h2 h5
      go_wp2_with (go_at_call 82; refine HC.out.mono ?_; rintro e w8 ⟨v8, rfl, hL8, g8⟩)
      go_meet
      case rel => exact ⟨by rw [HH.out]; exact hL8, g8⟩
    by_cases h8 : kk = 8
    · subst h8
      have HH := Lib.hid (headB8 (l := subs.length) hkk)
      obtain ⟨r1, r2, r3⟩ := formed_rep HF.out hkk
      obtain ⟨mn, hmn⟩ : ∃ mn : Nat, hd.min = mn := ⟨hd.min.toNat, by omega⟩
      obtain ⟨mx, hmx⟩ : ∃ mx : Nat, hd.max = (mx : Int) - 1 := ⟨(hd.max + 1).toNat, by omega⟩
      have c7 : w7.cell? ⟨b, 7, none⟩ = some (.int .i64 hd.min) := hb7.cell 7
      have c8 : w7.cell? ⟨b, 8, none⟩ = some (.int .i64 hd.max) := hb7.cell 8
      have c9 : w7.cell? ⟨b, 9, none⟩ = some (.bool hd.bare) := hb7.cell 9
      rw [hmn] at c7 HH
      rw [hmx] at c8 HH
      rw [Int.toNat_natCast, show ((mx : Int) - 1 + 1).toNat = mx by omega] at HH
      have hm1 : mn < 1000000 := by omega
      have hm2 : mx < 1000000 := by omega
      have hl1 : (l ++ [b8 8]).length ≤ 100000000 := by rw [List.length_append]; simp; omega
      have hl2 : (l ++ [b8 8] ++ numB mn).length ≤ 100000000 := by
        have := HH.out
        have h3 := congrArg List.length this
        simp only [List.length_append, List.length_singleton] at h3 ⊢
        omega
      clear h2 h5 h7 hmn hmx r1 r2 r3
      go_upto_region 18 with fail
      have hq : IntKind.i64.wrap (mx : Int) = (mx : Int) := by rw [IntKind.wrap_i64]; omega
      go_cut [0] (fun v' wx => OwnB wx w0.heap.size v' (l ++ [b8 8] ++ numB mn ++ numB mx) ∧ Grew w7 wx v7 v')
      case first =>
        have hbd : Blk w7.drew b 27 (nodeA hd (.slice A subs.length c)) := hb7
        have hBd : w0.heap.size ≤ w7.drew.heap.size := hB7
        have hLd : OwnB w7.drew w0.heap.size v7 (l ++ [b8 8]) := hL7.ext (Ext.refl w7).drew
        go_region_with (first
          | (go_at_call 82; ((with_reducible refine (number_any mn v7 (l ++ [b8 8]) w0.heap.size w7.drew hLd hBd hm1 hl1).mono ?_); rintro e w8 ⟨v8, rfl, hL8, g8⟩; have c8' : w8.cell? ⟨b, 8, none⟩ = some (.int .i64 ((mx : Int) - 1)) := c8.symm ▸ ((g8.blk hbd hvb7).1.cell 8).trans ((hb7.cell 8).symm); have hB8 := Nat.le_trans hBd g8.keeps.size))
          | (go_at_call 82; ((with_reducible refine (number_any mx v8 (l ++ [b8 8] ++ numB mn) w0.heap.size w8 hL8 hB8 hm2 hl2).mono ?_); rintro e w9 ⟨v9, rfl, hL9, g9⟩)))
        all_goals
          go_wp2
          go_meet
          case rel => exact ⟨hL9, ((Grew.of_ext v7 (Ext.refl w7).drew).trans g8).trans g9⟩
      obtain ⟨hL9, g9⟩ := hcut
      generalize wc = w9 at *
      have c9' : w9.cell? ⟨b, 9, none⟩ = some (.bool hd.bare) := (g9.blk hb7 hvb7).1.cell 9
      have hB9 := Nat.le_trans hB7 g9.keeps.size
      have hl3 : (l ++ [b8 8] ++ numB mn ++ numB mx).length ≤ 1000000000000 := by
        have := HH.out
        have h3 := congrArg List.length this
        simp only [List.length_append, List.length_singleton] at h3 ⊢
        omega
      clear c7 c8 c0 c5 hq hL7 hvb7 hb7 hxw7 gw7 hl1 hl2 hm1 hm2 hlen
      go_step
      cases hbare : hd.bare
      · rw [hbare] at c9' HH
        go_wp2_with (first
          | (refine wpl_oneB rfl _ rfl 0 rfl ?_; intro g6 w6 hg6 hx6 e6)
          | (refine wpl_appB1 rfl _ _ rfl w0.heap.size _ (l ++ [b8 8] ++ numB mn ++ numB mx) 0 g6 1 (by decide) rfl rfl (hL9.ext hx6) (Nat.le_trans hB9 hx6.size) hg6 hl3 ?_; intro va wa hLa ga))
        go_meet
        case rel => exact ⟨by rw [HH.out]; simpa [show b8 0 = (0 : UInt8) from rfl, show b8 1 = (1 : UInt8) from rfl] using hLa, (g9.trans (Grew.of_ext _ hx6)).trans ga⟩
      · rw [hbare] at c9' HH
        go_wp2_with (first
          | (refine wpl_oneB rfl _ rfl 1 rfl ?_; intro g6 w6 hg6 hx6 e6)
          | (refine wpl_appB1 rfl _ _ rfl w0.heap.size _ (l ++ [b8 8] ++ numB mn ++ numB mx) 1 g6 1 (by decide) rfl rfl (hL9.ext hx6) (Nat.le_trans hB9 hx6.size) hg6 hl3 ?_; intro va wa hLa ga))
        go_meet
        case rel => exact ⟨by rw [HH.out]; simpa [show b8 0 = (0 : UInt8) from rfl, show b8 1 = (1 : UInt8) from rfl] using hLa, (g9.trans (Grew.of_ext _ hx6)).trans ga⟩
    · have HH := Lib.hid (headB0 (l := subs.length) (show hd.kind ≠ 2 ∧ hd.kind ≠ 5 ∧ hd.kind ≠ 6 ∧ hd.kind ≠ 7 ∧ hd.kind ≠ 8 by omega))
      have n2 : ((kk : Int) == 2) = false := by rw [beq_eq_false_iff_ne]; omega
      have n5 : ((kk : Int) == 5) = false := by rw [beq_eq_false_iff_ne]; omega
      have n6 : ((kk : Int) == 6) = false := by rw [beq_eq_false_iff_ne]; omega
      have n7 : ((kk : Int) == 7) = false := by rw [beq_eq_false_iff_ne]; omega
      have n8 : ((kk : Int) == 8) = false := by rw [beq_eq_false_iff_ne]; omega
      clear h2 h5 h7 h8
      go_wp2
      go_meet
      case rel => exact ⟨by rw [HH.out, List.append_nil]; exact hL7, Grew.refl _ _⟩
  obtain ⟨hL8, g8⟩ := hcut
  generalize wc = w8 at *
  obtain ⟨v8, rfl⟩ : ∃ v8, v8 = u0 := ⟨_, rfl⟩
  obtain ⟨hb8, hvb8⟩ := g8.blk hb7 hvb7
  have hxw8 := g8.ext hL7 hxw7 (Nat.le_refl _)
  have gw8 := gw7.trans g8
  have c5 : w8.cell? ⟨b, 5, none⟩ = some (.slice A subs.length c) := hb8.cell 5
  have HL := Lib.hid (show res = [b8 kk] ++ headB hd subs.length ++ imgL subs by rw [HIMG.out, show hd.kind.toNat = kk by omega]; simp)
  have HT := Lib.hid (show ∀ k, k < subs.length → (imgL (subs.take (k + 1))).length ≤ (imgL subs).length from fun k hk => by
    have := imgL_app (subs.take (k + 1)) (subs.drop (k + 1))
    rw [List.take_append_drop] at this
    rw [this, List.length_append]
    omega)
  clear hL7 hb7 hvb7 hxw7 gw7 g8 HF HIMG hkk hk1 hk2
  generalize headB hd subs.length = hdr at *
  have hL80 : OwnB w8 w0.heap.size v8 (l ++ [b8 kk] ++ hdr ++ imgL (subs.take 0)) := by rw [List.take_zero, imgL, List.append_nil]; exact hL8
  clear hL8
  go_step
  go_wp2
  clear c5
  go_loopw [0, 71] (fun v' t wr => ∃ k : Nat, k ≤ subs.length ∧ t = .int .i64 k ∧ OwnB wr w0.heap.size v' (l ++ [b8 kk] ++ hdr ++ imgL (subs.take k)) ∧ Grew w wr v v' ∧ Ext w0 wr) (fun _ t _ => subs.length - (intOf t).toNat)
  case atStart => exact ⟨0, Nat.zero_le _, rfl, hL80, gw8, hxw8⟩
  case round =>
    clear hL80 gw8 hxw8 hb8 hvb8
    obtain ⟨k, hk, rfl, hLk, gk, hxk⟩ := hrel
    by_cases hlt : k < subs.length
    · obtain ⟨g0, o0, sv, rfl, hat, hok⟩ := HN.out.get k hlt
      replace hat := hat.ext hxk
      have HM := Lib.hid (show imgL (subs.take (k + 1)) = imgL (subs.take k) ++ imgN subs[k] by rw [take_snoc subs k hlt, imgL_app, imgL_one])
      have hlk : (l ++ [b8 kk] ++ hdr ++ imgL (subs.take k)).length + (imgN subs[k]).length ≤ 100000000 := by
        have h1 := HT.out k hlt
        rw [HM.out, List.length_append] at h1
        simp only [List.length_append, List.length_singleton]
        omega
      have IHk := Lib.hid (fun v' w' (hx' : Ext w0 w') (hL' : OwnB w' w0.heap.size v' (l ++ [b8 kk] ++ hdr ++ imgL (subs.take k))) => IH.out subs[k] (List.getElem_mem hlt) sv v' _ w' hok hx' (.inl hL') hlk)
      have hsh := hok.sl
      have hBk : w0.heap.size ≤ wr.heap.size := hxk.size
      clear IH HN hok hlk HT
      generalize subs[k] = nk at *
      generalize imgN nk = im at *
      have d1 : (k : Int) < (subs.length : Int) := by omega
      go_wp2_with (first
        | (refine wpl_loadNd rfl _ rfl g0 (o0 + k * 10) nk.h sv rfl hat ?_)
        | (refine wpl_allocNd rfl rfl ?_; intro s w4 hs hx4 es ss)
        | (refine wpl_storeNd rfl _ _ rfl rfl s nk.h _ sv _ rfl rfl hsh hs ?_; intro w5 hs5 hk5; have hx5 := hx4.keep1 hk5 es)
        | (refine wpl_loadNd rfl _ rfl s 0 nk.h sv rfl hs5.nd ?_)
        | (go_at_call 59; refine (IHk.out _ _ (hxk.trans hx5) (hLk.ext hx5)).mono ?_; rintro e w6 ⟨v6, rfl, hL6, g6⟩))
      have hx6 := g6.ext (hLk.ext hx5) (hxk.trans hx5) (Nat.le_refl _)
      have gk6 := (gk.trans (Grew.of_ext _ hx5)).trans g6
      clear hLk gk hxk hs hx4 es ss hs5 hk5 hx5 g6 hat hsh
      go_roundw
      case rel => exact ⟨k + 1, by omega, by go_num, by rw [HM.out, ← List.append_assoc]; exact hL6, gk6, hx6⟩
      case measure => simp [intOf]; omega
    · have hkl : subs.take k = subs := List.take_of_length_le (by omega)
      rw [hkl] at hLk
      have hd1 : ¬ (k : Int) < (subs.length : Int) := by omega
      clear hkl IH HN HT
      go_wp2
      go_ret
      exact ⟨_, rfl, by rw [HL.out]; simpa using hLk, gk⟩

end Go.Proofs.YthddlhpndaffjaaDoor
