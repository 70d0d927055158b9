/- The reference's Rows as a contract over the set's bytes. No condition. -/
import Derived.Test.YtfgocamajfipmaaORowP
import Derived.Test.YtfgocamajfipmaaKeeps
namespace Go.Proofs.Ytfgocamajfipmaa
open Go.RowKit

theorem u8_wrap (k : Nat) (h : k < 256) : IntKind.u8.wrap (k : Int) = (k : Int) := by rw [IntKind.wrap_u8]; omega
set_option maxRecDepth 100000 in
set_option maxHeartbeats 4000000 in
theorem rRows_any (p : Nat → Bool) (w : World) :
    Calls Try.prog 14 #[setV p] w fun r w' => ∃ v, r = .returned v ∧ OwnR w' w.heap.size v (rowsTo p 256) ∧ Ext w w' := by
  have HBi := Lib.hid (fun W => bits_any p W)
  have hzz := zero_bools
  unfold setV u64v at HBi ⊢
  go_enter Try.func14, Try.ntmps14
  go_upto_region 2 with (first
    | (go_at_call 21; refine (HBi.out _).mono ?_; rintro e w1 ⟨rfl, hx1⟩)
    | (refine wpl_storeB rfl (.tmp 3) (.tmp 7) rfl w1.heap.size _ p (fun _ => false) rfl rfl (Blk.new w1 _ _) ?_))
  have hx2 : Ext w w1 := ((Ext.refl w).alloc _).trans hx1
  have hx3 := (hx2.alloc (.cells (bC fun _ => false) 46)).setRow hx2.size (bC p)
  have hs : Blk ((w1.alloc (.cells (bC fun _ => false) 46)).setRow w1.heap.size (bC p)) w1.heap.size 46 (bC p) := (Blk.new w1 _ _).setRow
  have hS := hx2.size
  clear hx1 hx2 HBi
  generalize (w1.alloc (.cells (bC fun _ => false) 46)).setRow w1.heap.size (bC p) = w2 at *
  generalize w1.heap.size = S at *
  go_wp2
  go_loopw [4, 5] (fun ov i wr => ∃ k : Nat, k ≤ 256 ∧ i = .int .i64 k ∧ OwnR wr w.heap.size ov (rowsTo p k) ∧ Blk wr S 46 (bC p) ∧ Ext w wr) (fun _ i _ => 256 - (intOf i).toNat)
  case atStart => exact ⟨0, by omega, rfl, OwnR.nil _ _, hs, hx3⟩
  case round =>
    clear hs hx3
    obtain ⟨k, hk, rfl, hO, hs, hx⟩ := hrel
    by_cases hlt : k < 256
    · have c1 := hs.cell k
      rw [bC_get _ _ hlt] at c1
      cases hp : p k with
      | false =>
        rw [hp] at c1
        have hno := Lib.hid (rowsTo_no p k hp)
        clear hp
        go_wp2
        go_roundw
        case rel => exact ⟨k + 1, by omega, by go_num, by rw [hno.out]; exact hO, hs, hx⟩
        case measure => simp [intOf]; omega
      | true =>
        rw [hp] at c1
        have q8 := u8_wrap k hlt
        have hlen := rowsTo_len p k
        by_cases hon : k ≠ 0 ∧ p (k - 1) = true
        · obtain ⟨hk0, hp1⟩ := hon
          have c2 := hs.cell (k - 1)
          rw [bC_get _ _ (by omega), hp1] at c2
          obtain ⟨l, a, hl⟩ := rowsTo_ends p (k - 1) hp1
          have e : k - 1 + 1 = k := by omega
          rw [e] at hl
          have hon := Lib.hid (rowsTo_on p k l a _ hp hk0 hp1 hl)
          rw [hl] at hO hlen
          obtain ⟨g, cap, hv, hg, _, h2⟩ := hO.cells l.length (by simp)
          have hbk := hO.blk g (by rw [hv]; rfl)
          obtain ⟨_, cur, hcur⟩ := hbk
          have f2 := hcur.frozen (l.length * 2 + 1)
          have hne := hcur.ne hs (by decide)
          rw [show (l ++ [(a, k - 1)]).length = l.length + 1 by simp] at hv hlen
          subst hv
          have d1 : (0 : Int) < (k : Int) := by omega
          have q1 : IntKind.i64.wrap ((k : Int) - 1) = ((k - 1 : Nat) : Int) := by rw [IntKind.wrap_i64]; omega
          have q2 : IntKind.i64.wrap (((l.length + 1 : Nat) : Int) - 1) = (l.length : Int) := by rw [IntKind.wrap_i64]; omega
          have HO := Lib.hid hO
          clear hl hp hp1 hO hcur e
          go_wp2
          go_roundw
          case rel =>
            refine ⟨k + 1, by omega, by go_num, ?_, hs.far (by simp; omega) _, hx.setCell (by simp; omega) _⟩
            rw [hon.out]
            exact HO.out.setHi
          case measure => simp [intOf]; omega
        · have hor : k = 0 ∨ p (k - 1) = false := by
            rcases Nat.eq_zero_or_pos k with h5 | h5
            · exact .inl h5
            · right
              cases h6 : p (k - 1) with
              | false => rfl
              | true => exact absurd ⟨by omega, h6⟩ hon
          have hnw := Lib.hid (rowsTo_new p k hp hor)
          clear hon hp
          by_cases hk0 : k = 0
          · have d1 : ¬ (0 : Int) < (k : Int) := by omega
            clear hk0 hor
            have hx4 : Ext wr (wr.alloc (.cells #[.int .u8 (k : Int), .int .u8 (k : Int)] 36)) := (Ext.refl wr).alloc _
            have hb4 : Blk (wr.alloc (.cells #[.int .u8 (k : Int), .int .u8 (k : Int)] 36)) wr.heap.size 36 #[.int .u8 (k : Int), .int .u8 (k : Int)] := Blk.new wr _ _
            have e0 : (wr.alloc (.cells #[.int .u8 (k : Int), .int .u8 (k : Int)] 36)).cell? ⟨wr.heap.size, 0, none⟩ = some (.int .u8 (k : Int)) := hb4.cell 0
            have e1 : (wr.alloc (.cells #[.int .u8 (k : Int), .int .u8 (k : Int)] 36)).cell? ⟨wr.heap.size, 1, none⟩ = some (.int .u8 (k : Int)) := hb4.cell 1
            have hO4 := Lib.hid (hO.ext hx4)
            have hz4 := hx4.size
            have hzz2 := hx.size
            have HE := Lib.hid (⟨e0, e1⟩ : _ ∧ _)
            clear hb4 e0 e1 hO
            go_wp2_with (at_builtin; refine wpList_appR rfl (.tmp 32) (.tmp 38) rfl w.heap.size u4 (rowsTo p k) rfl hO4.out wr.heap.size 1 k k rfl HE.out.1 HE.out.2 (by omega) (by omega) ?_; intro v4 w4 own4 hg4)
            go_roundw
            case rel =>
              have hKK := (Keeps.refl (fun i => u4.ownBlock = some i) _).grown hg4 (fun i hi => .inr hi)
              refine ⟨k + 1, by omega, by go_num, by rw [hnw.out]; exact own4, (hs.ext hx4).keeps hKK (fun hf => ?_), (hx.trans hx4).keeps hKK (fun i hi hf => ?_)⟩
              · obtain ⟨_, cu, hcu⟩ := hO4.out.blk S hf
                exact hcu.ne (hs.ext hx4) (by decide) rfl
              · have := (hO4.out.blk i hf).1
                omega
            case measure => simp [intOf]; omega
          · have h1 := hor.resolve_left hk0
            have d1 : (0 : Int) < (k : Int) := by omega
            have c2 := hs.cell (k - 1)
            rw [bC_get _ _ (by omega), h1] at c2
            have q1 : IntKind.i64.wrap ((k : Int) - 1) = ((k - 1 : Nat) : Int) := by rw [IntKind.wrap_i64]; omega
            clear h1
            have hx4 : Ext wr (wr.alloc (.cells #[.int .u8 (k : Int), .int .u8 (k : Int)] 36)) := (Ext.refl wr).alloc _
            have hb4 : Blk (wr.alloc (.cells #[.int .u8 (k : Int), .int .u8 (k : Int)] 36)) wr.heap.size 36 #[.int .u8 (k : Int), .int .u8 (k : Int)] := Blk.new wr _ _
            have e0 : (wr.alloc (.cells #[.int .u8 (k : Int), .int .u8 (k : Int)] 36)).cell? ⟨wr.heap.size, 0, none⟩ = some (.int .u8 (k : Int)) := hb4.cell 0
            have e1 : (wr.alloc (.cells #[.int .u8 (k : Int), .int .u8 (k : Int)] 36)).cell? ⟨wr.heap.size, 1, none⟩ = some (.int .u8 (k : Int)) := hb4.cell 1
            have hO4 := Lib.hid (hO.ext hx4)
            have hz4 := hx4.size
            have hzz2 := hx.size
            have HE := Lib.hid (⟨e0, e1⟩ : _ ∧ _)
            clear hb4 e0 e1 hO
            go_wp2_with (at_builtin; refine wpList_appR rfl (.tmp 32) (.tmp 38) rfl w.heap.size u4 (rowsTo p k) rfl hO4.out wr.heap.size 1 k k rfl HE.out.1 HE.out.2 (by omega) (by omega) ?_; intro v4 w4 own4 hg4)
            go_roundw
            case rel =>
              have hKK := (Keeps.refl (fun i => u4.ownBlock = some i) _).grown hg4 (fun i hi => .inr hi)
              refine ⟨k + 1, by omega, by go_num, by rw [hnw.out]; exact own4, (hs.ext hx4).keeps hKK (fun hf => ?_), (hx.trans hx4).keeps hKK (fun i hi hf => ?_)⟩
              · obtain ⟨_, cu, hcu⟩ := hO4.out.blk S hf
                exact hcu.ne (hs.ext hx4) (by decide) rfl
              · have := (hO4.out.blk i hf).1
                omega
            case measure => simp [intOf]; omega
    · have hk2 : k = 256 := by omega
      subst hk2
      clear hs
      go_wp2
      go_ret
      exact ⟨_, rfl, hO, hx⟩

end Go.Proofs.Ytfgocamajfipmaa
