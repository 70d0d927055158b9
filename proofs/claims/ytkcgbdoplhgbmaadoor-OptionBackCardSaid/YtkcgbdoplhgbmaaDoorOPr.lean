/- trawlref28.parts as a contract. Condition: the length of the text. -/
import Derived.Test.YtkcgbdoplhgbmaaDoorOTx
namespace Go.Proofs.YtkcgbdoplhgbmaaDoor
open Go Go.RowKit

theorem byB_drop (s : ByteArray) (k : Nat) (h : k < s.size) : (byB s).drop k = s[k] :: (byB s).drop (k + 1) := drop_get s k h

set_option maxRecDepth 100000 in
set_option maxHeartbeats 4000000 in
theorem rparts_any (s : ByteArray) (w : World) (hs : s.size ≤ 1000000000) :
    Calls Tryd.prog 70 #[.string s] w fun r w' => ∃ lv, ∃ ls : List ByteArray, r = .returned lv ∧ ls.map byB = partsP (byB s) ∧ Own1 w' w.heap.size 9 lv (ls.map Value.string) ∧ Ext w w' := by
  have HS := Lib.hid hs
  have HB := Lib.hid (byB_len s)
  go_enter Tryd.func70, Tryd.ntmps70
  go_wp2
  go_loopw [3, 4, 5] (fun lv fv i wr => ∃ (ls : List ByteArray) (f k : Nat), f ≤ k ∧ k ≤ s.size + 1 ∧ ls.length ≤ k ∧ fv = .int .i64 f ∧ i = .int .i64 k ∧ Own1 wr w.heap.size 9 lv (ls.map Value.string) ∧ Ext w wr ∧
      Hid (if k ≤ s.size then partsP (byB s) = ls.map byB ++ glueP (((byB s).drop f).take (k - f)) (partsP ((byB s).drop k)) else partsP (byB s) = ls.map byB)) (fun _ _ i _ => s.size + 1 - (intOf i).toNat)
  case atStart => exact ⟨[], 0, 0, Nat.le_refl _, Nat.zero_le _, Nat.zero_le _, rfl, rfl, Own1.nil _ _ _, Ext.refl w, Lib.hid (by simp [glueP_nil (partsP_ne _)])⟩
  case round =>
    obtain ⟨ls, f, k, hfk, hk, hlk, rfl, rfl, hL, hx, HSP⟩ := hrel
    by_cases hle : k ≤ s.size
    · have hsp := HSP.out
      rw [if_pos hle] at hsp
      have HSQ := Lib.hid hsp
      have HL := Lib.hid hL
      have HX := Lib.hid hx
      have hxs := hx.size
      clear hsp HSP
      have hw1 : wrap64 ((k : Int) + 1) = ((k + 1 : Nat) : Int) := by have := HS.out; unfold wrap64; omega
      by_cases hcut : k = s.size ∨ ∃ h : k < s.size, s[k] = 10
      · have HN : Hid ((if k + 1 ≤ s.size then partsP (byB s) = (ls ++ [s.extract f k]).map byB ++ glueP (((byB s).drop (k + 1)).take (k + 1 - (k + 1))) (partsP ((byB s).drop (k + 1))) else partsP (byB s) = (ls ++ [s.extract f k]).map byB)) := Lib.hid (by
          rw [List.map_append, List.map_singleton, byB_extract]
          rcases hcut with rfl | ⟨h, hc⟩
          · rw [if_neg (by omega), HSQ.out, show (byB s).drop s.size = [] from List.drop_eq_nil_of_le (by rw [byB_len]; exact Nat.le_refl _)]
            simp [partsP, glueP]
          · rw [if_pos (by omega), HSQ.out, byB_drop s k h, partsP_cons, if_pos hc, Nat.sub_self, List.take_zero, glueP_nil (partsP_ne _)]
            simp [glueP])
        have hcc : k = s.size ∨ (k < s.size ∧ ∀ h : k < s.size, s[k].toNat = 10) := by
          rcases hcut with rfl | ⟨h, hc⟩
          · exact .inl rfl
          · exact .inr ⟨h, fun _ => by rw [hc]; rfl⟩
        clear hcut HSQ hL hx
        have e1 : ls.length + 1 ≤ k + 1 := by omega
        rcases hcc with hke | ⟨hlt, hc⟩
        · have t1 : ((k : Int) == (s.size : Int)) = true := by rw [beq_iff_eq]; omega
          clear hke
          go_wp2_with (at_builtin; refine wpList_app1 rfl (.tmp 22) (.tmp 27) 43 rfl w.heap.size 9 (.string ⟨#[]⟩) 16 Tryd.underlying43 info_str rfl _ _ rfl (HL.out.ext ((Ext.refl wr).alloc _)) wr.heap.size 1 (.string (s.extract f k)) rfl (by rw [(Blk.new wr _ _).cell]; rfl) rfl (by have := HS.out; simp; omega) (by have := HS.out; simp; omega) (by have := HX.out.size; simp; omega) ?_; intro v2 w2 hO2 hb2)
          go_roundw
          case rel => exact ⟨ls ++ [s.extract f k], k + 1, k + 1, Nat.le_refl _, by omega, by simpa using e1, by go_num, by go_num, by simpa using hO2, (HX.out.alloc _).of_below hb2 (Nat.le_refl _), HN⟩
          case measure => simp [intOf]; omega
        · have t1 : ((k : Int) == (s.size : Int)) = false := by rw [beq_eq_false_iff_ne]; omega
          have hc' := hc hlt
          clear hc
          go_wp2_with (at_builtin; refine wpList_app1 rfl (.tmp 22) (.tmp 27) 43 rfl w.heap.size 9 (.string ⟨#[]⟩) 16 Tryd.underlying43 info_str rfl _ _ rfl (HL.out.ext ((Ext.refl wr).alloc _)) wr.heap.size 1 (.string (s.extract f k)) rfl (by rw [(Blk.new wr _ _).cell]; rfl) rfl (by have := HS.out; simp; omega) (by have := HS.out; simp; omega) (by have := HX.out.size; simp; omega) ?_; intro v2 w2 hO2 hb2)
          go_roundw
          case rel => exact ⟨ls ++ [s.extract f k], k + 1, k + 1, Nat.le_refl _, by omega, by simpa using e1, by go_num, by go_num, by simpa using hO2, (HX.out.alloc _).of_below hb2 (Nat.le_refl _), HN⟩
          case measure => simp [intOf]; omega
      · have hlt : k < s.size := by
          rcases Nat.lt_or_ge k s.size with h | h
          · exact h
          · exact absurd (.inl (by omega)) hcut
        have hc : s[k] ≠ 10 := fun h => hcut (.inr ⟨hlt, h⟩)
        have HN : Hid ((if k + 1 ≤ s.size then partsP (byB s) = ls.map byB ++ glueP (((byB s).drop f).take (k + 1 - f)) (partsP ((byB s).drop (k + 1))) else partsP (byB s) = ls.map byB)) := Lib.hid (by
          rw [if_pos (by omega), HSQ.out, byB_drop s k hlt, partsP_cons, if_neg hc, glueP_glue, piece_snoc s f k hfk hlt])
        have t1 : ((k : Int) == (s.size : Int)) = false := by rw [beq_eq_false_iff_ne]; omega
        have t2 : ((s[k].toNat : Int) == 10) = false := by
          rw [beq_eq_false_iff_ne]
          intro h
          exact hc (UInt8.toNat_inj.1 (by simpa using Int.ofNat.inj h))
        clear hcut HSQ hL hx hc
        go_wp2
        go_roundw
        case rel => exact ⟨ls, f, k + 1, by omega, by omega, by omega, rfl, by go_num, HL.out, HX.out, HN⟩
        case measure => simp [intOf]; omega
    · have hsp := HSP.out
      rw [if_neg hle] at hsp
      have HE := Lib.hid hsp
      have q1 : ¬ (k : Int) ≤ (s.size : Int) := by omega
      clear hsp HSP
      go_wp2
      go_ret
      exact ⟨_, rfl, ls, HE.out.symm, hL, hx⟩

end Go.Proofs.YtkcgbdoplhgbmaaDoor
