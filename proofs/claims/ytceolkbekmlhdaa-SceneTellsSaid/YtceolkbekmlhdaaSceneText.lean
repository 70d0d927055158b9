/- The reference's text of a scene as a contract: the subject, or its bytes from the end. Subjects of at most a million bytes. -/
import Derived.Test.YtceolkbekmlhdaaSceneTurn
namespace Go.Proofs.Ytceolkbekmlhdaa
open Go.RowKit

/-- The byte at place k. -/
def tb (s : ByteArray) (t : Bool) (k : Nat) : UInt8 := if t then s.data.toList.getD (s.size - 1 - k) 0 else s.data.toList.getD k 0
def tbs (s : ByteArray) (t : Bool) (k : Nat) : List UInt8 := (List.range k).map (tb s t)
def srText (s : ByteArray) (t : Bool) : ByteArray := ⟨(tbs s t s.size).toArray⟩
theorem tbs_succ (s : ByteArray) (t : Bool) (k : Nat) : tbs s t (k + 1) = tbs s t k ++ [tb s t k] := by simp [tbs, List.range_succ]
theorem srByte_tb (s : ByteArray) (t : Bool) (k : Nat) (h : k < s.size) : srByte s t k = ((tb s t k).toNat : Int) := by
  unfold srByte tb
  rw [if_pos ⟨by omega, by omega⟩]
  simp only [Int.toNat_natCast]
  split <;> rfl

def cu8 (l : List UInt8) : List Value := l.map fun b => Value.int .u8 b.toNat
@[simp] theorem cu8_len (l : List UInt8) : (cu8 l).length = l.length := by simp [cu8]

/-- 'string(b)', b a slice that the call itself made. -/
theorem run_string_own {B : Nat} {v : Value} {l : List UInt8} {w : World} (h : Own1 w B 5 v (cu8 l)) :
    (convert 44 9 v).run Try.prog w = .ok (.string ⟨l.toArray⟩) w := by
  rcases Nat.eq_zero_or_pos l.length with h0 | h0
  · have : l = [] := List.eq_nil_of_length_eq_zero h0
    subst this
    rcases h.2 with ⟨rfl, _⟩ | ⟨g, cap, cur, rfl, _⟩
    · exact run_convert_bytes_nil w 44 5 Try.underlying44 Try.underlying5 0 0 9 Try.underlying9
    · exact run_convert_bytes_back (P := Try.prog) w 44 9 5 ⟨g, 0, none⟩ cap [] Try.underlying44 Try.underlying5 Try.underlying9 (fun j hj => by simp at hj)
  · obtain ⟨g, cap, rfl, _, _, hc⟩ := h.form (by simpa using h0)
    rw [cu8_len]
    exact run_convert_bytes_back (P := Try.prog) w 44 9 5 ⟨g, 0, none⟩ cap l Try.underlying44 Try.underlying5 Try.underlying9 (fun j hj => by
      have ea : (⟨g, 0, none⟩ : Addr).add j = ⟨g, j, none⟩ := by unfold Addr.add; split <;> simp_all
      rw [ea]
      exact hc j _ (by simp [cu8, hj]))

set_option maxHeartbeats 2000000 in
theorem rText_any (s : ByteArray) (c e : Int) (t : Bool) (w : World) (hs : s.size ≤ 1000000) :
    Calls Try.prog 29 #[srV s c e t] w fun r w' => r = .returned (.string (srText s t)) ∧ Ext w w' := by
  have HB := Lib.hid (fun i W => rByte_any s c e t i W hs)
  unfold srV at *
  go_enter Try.func29, Try.ntmps29
  go_wp2_with fail
  obtain ⟨W, hW⟩ : ∃ W, W = w.alloc (.cells #[Value.string s, Value.int .i64 c, Value.int .i64 e, Value.bool t] 30) := ⟨_, rfl⟩
  rw [← hW]
  have hx0 : Ext w W := by rw [hW]; exact (Ext.refl w).alloc _
  have k4 : Blk W w.heap.size 30 #[Value.string s, Value.int .i64 c, Value.int .i64 e, Value.bool t] := by rw [hW]; exact Blk.new _ _ _
  clear hW
  go_loopw [3, 4] (fun v i wr => ∃ k : Nat, k ≤ s.size ∧ i = .int .i64 k ∧ Own1 wr W.heap.size 5 v (cu8 (tbs s t k)) ∧ Ext W wr) (fun _ i _ => s.size - (intOf i).toNat)
  case atStart => exact ⟨0, Nat.zero_le _, rfl, Own1.nil _ _ _, Ext.refl _⟩
  case round =>
    obtain ⟨k, hk, rfl, hown, hx⟩ := hrel
    have b4 := k4.ext hx
    have c0 := b4.cell 0
    have c1 := b4.cell 1
    have c2 := b4.cell 2
    have c3 := b4.cell 3
    simp at c0 c1 c2 c3
    by_cases hlt : k < s.size
    · have HT := Lib.hid (srByte_tb s t k hlt)
      have hmod : ((tb s t k).toNat : Int) % 256 = ((tb s t k).toNat : Int) := by have := (tb s t k).toNat_lt; omega
      have hl : (cu8 (tbs s t k)).length ≤ 1000000 := by simp [tbs]; omega
      have hsz := hx.size
      go_wp2_with (first
        | (go_at_call 34; refine ((HB.out k _)).mono ?_; rw [HT.out]; rintro e w2 ⟨rfl, hx2⟩)
        | (at_builtin; refine wpList_app1 rfl (.tmp 12) (.tmp 17) 44 rfl W.heap.size 5 (.int .u8 0) 1 Try.underlying44 info_u8 rfl _ _ rfl ((hown.ext hx2).ext ((Ext.refl w2).alloc _)) w2.heap.size 1 (.int .u8 (tb s t k).toNat) rfl (by simp) rfl (by omega) (by omega) (by have := hx2.size; simp; omega) ?_; intro v3 w3 hown3 hb3))
      go_roundw
      case rel =>
        refine ⟨k + 1, hlt, by go_num, by rw [tbs_succ]; simpa [cu8] using hown3, ((hx.trans hx2).alloc _).of_below hb3 (Nat.le_refl _)⟩
      case measure => simp [intOf]; omega
    · have hks : k = s.size := by omega
      subst hks
      have hcv := run_string_own hown
      go_wp2
      go_ret
      exact ⟨rfl, hx0.trans hx⟩

end Go.Proofs.Ytceolkbekmlhdaa
