/- The program's iterator octet.Rows as a contract: it tells the rows of the set, rising; it stops where a round says so. No condition. -/
import Derived.RangeFuncNested
import Derived.RangeFuncBound
import Derived.RangeFuncCalls
import Derived.RangeFuncLeaves
import Derived.Shelf.Abstract
import Derived.Shelf.RegionOpen
import Derived.WalkKit
import Derived.OwnWalkIn
import Derived.TacticsInMore
import Derived.LoopNIn
import Derived.LoopIn
import Derived.Test.YtfgocamajfipmaaORowR
namespace Go.Proofs.Ytfgocamajfipmaa
open Go.RowKit Go.Shelf
attribute [local go_sem] Oper.semAt_some

theorem prefix_drop {α : Type} {A l : List α} {x : α} (h : A <+: l ++ [x]) (hx : x ∉ A) : A <+: l := by
  obtain ⟨t, ht⟩ := h
  rcases List.eq_nil_or_concat t with rfl | ⟨t', y, rfl⟩
  · rw [List.append_nil] at ht
    exact absurd (by rw [ht]; simp) hx
  · rw [List.concat_eq_append, ← List.append_assoc] at ht
    have := List.append_inj_left' ht (by simp)
    exact ⟨t', this⟩
/-- A place where no row goes over. -/
def sepAt (p : Nat → Bool) (k : Nat) : Prop := k = 0 ∨ p (k - 1) = false ∨ p k = false ∨ 256 ≤ k
theorem rowsTo_prefix (p : Nat → Bool) (k : Nat) (hs : sepAt p k) : ∀ m, k ≤ m → m ≤ 256 → rowsTo p k <+: rowsTo p m := fun m => by
  induction m with
  | zero =>
    intro h _
    have h0 : k = 0 := Nat.le_zero.1 h
    rw [h0]
    exact List.prefix_refl _
  | succ m ih =>
    intro h hm
    rcases Nat.lt_or_ge m k with h1 | h1
    · obtain rfl : k = m + 1 := by omega
      exact List.prefix_refl _
    · have ih := ih h1 (by omega)
      cases hp : p m with
      | false => rw [rowsTo_no p m hp]; exact ih
      | true =>
        by_cases hon : m ≠ 0 ∧ p (m - 1) = true
        · obtain ⟨hm0, hp1⟩ := hon
          obtain ⟨l, a, hl⟩ := rowsTo_ends p (m - 1) hp1
          have e : m - 1 + 1 = m := by omega
          rw [e] at hl
          rw [rowsTo_on p m l a _ hp hm0 hp1 hl]
          rw [hl] at ih
          have hkm : k ≠ m := by
            rintro rfl
            rcases hs with h2 | h2 | h2 | h2
            · exact hm0 h2
            · rw [hp1] at h2; cases h2
            · rw [hp] at h2; cases h2
            · omega
          have := prefix_drop ih (fun hin => by have := (rowsTo_lt p k _ hin).2; simp only at this; omega)
          exact this.trans (List.prefix_append _ _)
        · rw [rowsTo_new p m hp (by
            rcases Nat.eq_zero_or_pos m with h5 | h5
            · exact .inl h5
            · right
              cases h6 : p (m - 1) with
              | false => rfl
              | true => exact absurd ⟨by omega, h6⟩ hon)]
          exact ih.trans (List.prefix_append _ _)

/-- The program's Rows hands back its closure over a copy of the set. -/
theorem rows_made (p : Nat → Bool) (w : World) :
    Calls Try.prog 16 #[.agg #[.int .u64 (wd p 0 : Int), .int .u64 (wd p 1 : Int), .int .u64 (wd p 2 : Int), .int .u64 (wd p 3 : Int)]] w fun r w' => r = .returned (.func (.func 23) #[] #[.pointer (some ⟨w.heap.size, 0, none⟩)]) ∧ w' = w.alloc (.cells #[.int .u64 (wd p 0 : Int), .int .u64 (wd p 1 : Int), .int .u64 (wd p 2 : Int), .int .u64 (wd p 3 : Int)] 25) := by
  go_enter Try.func16, Try.ntmps16
  go_wp2
  go_ret
  exact ⟨rfl, rfl⟩

theorem has_i (p : Nat → Bool) (b : Nat) (w : World) (hb : b < 256) :
    Calls Try.prog 20 #[.agg #[.int .u64 (wd p 0 : Int), .int .u64 (wd p 1 : Int), .int .u64 (wd p 2 : Int), .int .u64 (wd p 3 : Int)], .int .u8 (b : Int)] w fun r w' => r = .returned (.bool (p b)) ∧ Ext w w' := has_any p b w hb

set_option maxRecDepth 100000 in
set_option maxHeartbeats 4000000 in
theorem rows1_in (n : Nat) (hn : 1 ≤ n) (l Bs n₀ : Nat) (p : Nat → Bool) (hb : Bs < n₀) (J Jx : List (Nat × Nat) → World → Prop) (hJ : ∀ pre A B, J pre A → Ext A B → J pre B)
    (hY : ∀ pre x W, J pre W → pre.length < (rowsTo p 256).length → YieldAt Fence.wide (n - 1) Try.prog l #[.int .u8 ((x : Nat × Nat).1 : Int), .int .u8 (x.2 : Int)] W fun e W' =>
      (e = .returned (.bool true) ∧ J (pre ++ [x]) W' ∧ Below n₀ W W') ∨ (e = .returned (.bool false) ∧ Jx (pre ++ [x]) W'))
    (W : World) (hBs : Blk W Bs 25 (setC p)) (h0 : J [] W) :
    CallsIn Fence.wide n Try.prog 23 #[.func (.yield l) #[] #[], .pointer (some ⟨Bs, 0, none⟩)] W fun e W' => (∃ v, e = .returned v) ∧
      ((∃ ys, ys = rowsTo p 256 ∧ J ys W') ∨ (∃ pre, pre <+: rowsTo p 256 ∧ Jx pre W')) := by
  have HJ := Lib.hid hJ
  have HY := Lib.hid hY
  clear hJ hY
  refine callsIn_of_wp Try.func23 rfl trivial ?_ rfl
  simp only [Try.ntmps23, List.size_toArray, List.length_cons, List.length_nil, Nat.reduceAdd, Nat.reduceSub, Array.replicate_succ, Array.replicate_zero, List.push_toArray, List.append_toArray, List.nil_append, List.cons_append]
  gi_wp2
  gi_loopw [3, 4] (fun i _ wr => ∃ b : Nat, b ≤ 256 ∧ i = .int .i64 b ∧ J (rowsTo p b) wr ∧ sepAt p b ∧ Blk wr Bs 25 (setC p)) (fun i _ _ => 256 - (intOf i).toNat)
  case atStart => exact ⟨0, Nat.zero_le _, rfl, h0, .inl rfl, hBs⟩
  case round =>
    clear h0 hBs W
    obtain ⟨b, hb256, rfl, hJb, hsep, hB⟩ := hrel
    by_cases hlt : b < 256
    · obtain ⟨c0, c1, c2, c3, _, _, _, _⟩ := setC_cells hB
      have q8 := u8_wrap b hlt
      cases hp : p b with
      | false =>
        have HA := Lib.hid (fun W => has_i p b W hlt)
        rw [hp] at HA
        gi_wp2_with (refine ⟨trivial, ?_⟩; gi_at_call 20; refine (callsIn_wide.2 (HA.out _)).mono ?_; rintro e w1 ⟨rfl, hx1⟩)
        go_roundw
        case rel => exact ⟨b + 1, by omega, by go_num, by rw [rowsTo_no p b hp]; exact HJ.out _ _ _ hJb hx1, .inr (.inl hp), hB.ext hx1⟩
        case measure => simp [intOf]; omega
      | true =>
        have HA := Lib.hid (fun W => has_i p b W hlt)
        rw [hp] at HA
        have hnew := rowsTo_new p b hp (by
          rcases hsep with h | h | h | h
          · exact .inl h
          · exact .inr h
          · rw [hp] at h; cases h
          · omega)
        have HN := Lib.hid hnew
        clear hnew
        gi_wp2_with (refine ⟨trivial, ?_⟩; gi_at_call 20; refine (callsIn_wide.2 (HA.out _)).mono ?_; rintro e w1 ⟨rfl, hx1⟩)
        replace hJb := HJ.out _ _ _ hJb hx1
        replace hB := hB.ext hx1
        clear HA hx1 c0 c1 c2 c3
        gi_loopw [3] (fun i wx => ∃ c : Nat, b ≤ c ∧ c ≤ 255 ∧ i = .int .i64 c ∧ p c = true ∧ rowsTo p (c + 1) = rowsTo p b ++ [(b, c)] ∧ J (rowsTo p b) wx ∧ Blk wx Bs 25 (setC p)) (fun i _ => 256 - (intOf i).toNat)
        case atStart => exact ⟨b, Nat.le_refl _, by omega, rfl, hp, HN.out, hJb, hB⟩
        case round =>
          clear hJb hB
          obtain ⟨c, hbc, hc255, rfl, hpc, hrow, hJb, hB⟩ := hrel
          obtain ⟨c0, c1, c2, c3, _, _, _, _⟩ := setC_cells hB
          have HROW := Lib.hid hrow
          have HPC := Lib.hid hpc
          clear hrow hpc
          by_cases hc : c < 255
          · have q9 : IntKind.i64.wrap ((c : Int) + 1) = ((c + 1 : Nat) : Int) := by rw [IntKind.wrap_i64]; omega
            have q7 : IntKind.u8.wrap ((c + 1 : Nat) : Int) = ((c + 1 : Nat) : Int) := u8_wrap (c + 1) (by omega)
            have HA := Lib.hid (fun W => has_i p (c + 1) W (by omega))
            have d1 : (c : Int) < 255 := by omega
            cases hp1 : p (c + 1) with
            | true =>
              rw [hp1] at HA
              have HP1 := Lib.hid hp1
              clear hp1
              gi_wp2_with (refine ⟨trivial, ?_⟩; gi_at_call 20; refine (callsIn_wide.2 (HA.out _)).mono ?_; rintro e w2 ⟨rfl, hx2⟩)
              go_roundw
              case rel => exact ⟨c + 1, by omega, by omega, by go_num, HP1.out, rowsTo_on p (c + 1) _ _ c HP1.out (by omega) (by simpa using HPC.out) HROW.out, HJ.out _ _ _ hJb hx2, hB.ext hx2⟩
              case measure => simp [intOf]; omega
            | false =>
              rw [hp1] at HA
              have hsp : sepAt p (c + 1) := .inr (.inr (.inl hp1))
              have hpre := rowsTo_prefix p (c + 1) hsp 256 (by omega) (Nat.le_refl _)
              have hlN : (rowsTo p b).length < (rowsTo p 256).length := by
                have := hpre.length_le
                rw [HROW.out, List.length_append, List.length_singleton] at this
                omega
              have HS := Lib.hid hsp
              have HPRE := Lib.hid hpre
              clear hp1 hsp hpre
              have q6 := u8_wrap c (by omega)
              gi_wp2_with (refine ⟨trivial, ?_⟩; gi_at_call 20; refine (callsIn_wide.2 (HA.out _)).mono ?_; rintro e w2 ⟨rfl, hx2⟩; obtain ⟨fn, tmps, assign, body, hy, hR⟩ := HY.out _ (b, c) w2 (HJ.out _ _ _ hJb hx2) hlN; dsimp only at hy)
              refine hR.mono ?_
              rintro e W3 (⟨rfl, hJ3, hk3⟩ | ⟨rfl, hJx3⟩)
              · gi_wp2
                go_roundw
                case rel =>
                  refine ⟨c + 1, by omega, by go_num, ?_, HS.out, ((hB.ext hx2).below hk3 hb)⟩
                  rw [HROW.out]
                  exact hJ3
                case measure => simp [intOf]; omega
              · gi_wp2
                refine bodyPost_ret (results_none rfl _ _ _) rfl ?_
                exact ⟨⟨_, rfl⟩, .inr ⟨_, HPRE.out, by rw [HROW.out]; exact hJx3⟩⟩
          · have hc5 : c = 255 := by omega
            have hsp : sepAt p (c + 1) := .inr (.inr (.inr (by omega)))
            have hpre := rowsTo_prefix p (c + 1) hsp 256 (by omega) (Nat.le_refl _)
            have hlN : (rowsTo p b).length < (rowsTo p 256).length := by
              have := hpre.length_le
              rw [HROW.out, List.length_append, List.length_singleton] at this
              omega
            have HS := Lib.hid hsp
            have HPRE := Lib.hid hpre
            have d1 : ¬ (c : Int) < 255 := by omega
            have q6 := u8_wrap c (by omega)
            obtain ⟨fn, tmps, assign, body, hy, hR⟩ := HY.out _ (b, c) wr hJb hlN
            dsimp only at hy
            clear hsp hpre hc5
            gi_wp2
            refine ⟨trivial, ?_⟩
            gi_wp2
            refine hR.mono ?_
            rintro e W3 (⟨rfl, hJ3, hk3⟩ | ⟨rfl, hJx3⟩)
            · gi_wp2
              go_roundw
              case rel =>
                refine ⟨c + 1, by omega, by go_num, ?_, HS.out, (hB.below hk3 hb)⟩
                rw [HROW.out]
                exact hJ3
              case measure => simp [intOf]; omega
            · gi_wp2
              refine bodyPost_ret (results_none rfl _ _ _) rfl ?_
              exact ⟨⟨_, rfl⟩, .inr ⟨_, HPRE.out, by rw [HROW.out]; exact hJx3⟩⟩
    · have hb2 : b = 256 := by omega
      subst hb2
      gi_wp2
      go_end0
      exact ⟨⟨_, rfl⟩, .inl ⟨_, rfl, hJb⟩⟩

/-- The contract as the law on loops asks it. -/
theorem rows_stops (n : Nat) (hn : 1 ≤ n) (Bs n₀ : Nat) (p : Nat → Bool) (w : World) (hb : Bs < n₀) (hBs : Blk w Bs 25 (setC p)) :
    SeqStopsK Fence.wide n Try.prog 23 #[.pointer (some ⟨Bs, 0, none⟩)] (fun x : Nat × Nat => #[Value.int .u8 (x.1 : Int), Value.int .u8 (x.2 : Int)]) (Below n₀) (fun ys => ys = rowsTo p 256) (fun pre => pre <+: rowsTo p 256) (rowsTo p 256).length w :=
  fun l J Jx W hW hJ _ hY h0 => rows1_in n hn l Bs n₀ p hb J Jx (fun pre A B h hx => hJ pre A B none h ⟨hx.os, hx.tape, hx.output, hx.size, fun k hk _ => Below.block hx k hk⟩ (fun r e => by cases e)) hY W (hBs.below hW (by have := hBs.lt; omega)) h0

end Go.Proofs.Ytfgocamajfipmaa
