/- The turned scene as a contract, and the reference's text of a scene. Subjects of at most a million bytes. -/
import Derived.Test.YtceolkbekmlhdaaScene
import Derived.Test.YtceolkbekmlhdaaSceneRef
namespace Go.Proofs.Ytceolkbekmlhdaa
open Go.RowKit

/-- The two bits change places. -/
def swp (v : UInt8) : UInt8 := v >>> 1 ||| (v &&& 1) <<< 1
theorem swp_mk (b e : Bool) : swp (mk b e) = mk e b := by cases b <;> cases e <;> rfl
theorem swp_bits (z : UInt8) : bits .or .u8 ((z.toNat : Int) / 2) (bits .and .u8 (z.toNat : Int) 1 * 2 % 256) = ((swp z).toNat : Int) := by
  have h1 := u8_and_nat z.toNat 1 z.toNat_lt (by decide)
  have e1 : bits .and .u8 (z.toNat : Int) 1 = ((z.toNat &&& 1 : Nat) : Int) := h1
  rw [e1]
  have hz := z.toNat_lt
  have hb : z.toNat &&& 1 < 2 := by rw [nat_mask1]; omega
  have e2 : ((z.toNat : Int) / 2) = ((z.toNat / 2 : Nat) : Int) := by omega
  have e3 : (((z.toNat &&& 1 : Nat) : Int) * 2 % 256) = (((z.toNat &&& 1) * 2 : Nat) : Int) := by omega
  rw [e2, e3, u8_or_nat _ _ (by omega) (by omega)]
  congr 1
  unfold swp
  simp only [UInt8.toNat_or, UInt8.toNat_shiftRight, UInt8.toNat_shiftLeft, UInt8.toNat_and]
  have e4 : (1 : UInt8).toNat = 1 := rfl
  rw [e4]
  simp only [Nat.shiftRight_eq_div_pow, Nat.shiftLeft_eq]
  have e5 : (z.toNat &&& 1) * 2 ^ (1 % 8) % 2 ^ 8 = (z.toNat &&& 1) * 2 := by
    rw [Nat.mod_eq_of_lt]
    have : (2 : Nat) ^ (1 % 8) = 2 := rfl
    rw [this]; omega
  rw [e5]
def turnS (s : ByteArray) : ByteArray := ⟨s.data.toList.reverse.toArray⟩
def turnM (m : List UInt8) : List UInt8 := (m.map swp).reverse
@[simp] theorem turnS_size (s : ByteArray) : (turnS s).size = s.size := by
  show (s.data.toList.reverse.toArray).size = s.data.size
  simp
@[simp] theorem turnM_len (m : List UInt8) : (turnM m).length = m.length := by simp [turnM]

/-- A row filled from its end: what is there after k rounds. -/
def backTo (n k : Nat) (l : List UInt8) : List UInt8 := List.replicate (n - k) 0 ++ (l.take k).reverse
theorem backTo_len (n k : Nat) (l : List UInt8) (h : k ≤ n) (hl : l.length = n) : (backTo n k l).length = n := by simp [backTo]; omega
theorem backTo_zero (n : Nat) (l : List UInt8) : backTo n 0 l = List.replicate n 0 := by simp [backTo]
theorem backTo_full (l : List UInt8) (n : Nat) (h : n = l.length) : backTo n n l = l.reverse := by subst h; simp [backTo]
theorem backTo_step (n k : Nat) (l : List UInt8) (hk : k < n) (hl : l.length = n) : (backTo n k l).set (n - 1 - k) (l.getD k 0) = backTo n (k + 1) l := by
  unfold backTo
  have h1 : n - k = (n - 1 - k) + 1 := by omega
  have h2 : n - (k + 1) = n - 1 - k := by omega
  rw [h1, h2, List.set_append_left _ _ (by simp)]
  have h3 : (List.replicate ((n - 1 - k) + 1) (0 : UInt8)).set (n - 1 - k) (l.getD k 0) = List.replicate (n - 1 - k) 0 ++ [l.getD k 0] := by
    rw [List.replicate_succ', List.set_append_right _ _ (by simp)]
    simp
  rw [h3, List.take_succ_eq_append_getElem (by omega), List.reverse_append, List.append_assoc]
  simp [List.getD_eq_getElem?_getD, List.getElem?_eq_getElem (show k < l.length by omega)]

set_option maxHeartbeats 2000000 in
theorem turned_any (p : Value) (s : ByteArray) (m : List UInt8) (w : World) (hs : s.size ≤ 1000000) (hm : m.length = s.size + 1) (h : IsScene w p s m) :
    Calls Try.prog 16 #[p] w fun r w' => (∃ p', r = .returned p' ∧ IsScene w' p' (turnS s) (turnM m)) ∧ Ext w w' := by
  have hmk := fun W => made_row (s.size + 1) (by omega) W
  have hmk0 := fun W => made_row s.size (by omega) W
  simp only [Int.natCast_add, Int.cast_ofNat_Int] at hmk
  obtain ⟨gx, gm, rfl, h1, h2⟩ := h
  have HM := Lib.hid hm; clear hm
  have c0 := h1.cell 0
  simp at c0
  go_enter Try.func16, Try.ntmps16
  go_upto_region 3 with fail
  go_cut [4, 5] (fun b y wx => ∃ gb gy gn, b = .slice (some ⟨gb, 0, none⟩) s.size s.size ∧ y = .pointer (some ⟨gy, 0, none⟩) ∧ Blk wx gb 5 (u8s (backTo s.size 0 s.data.toList)) ∧
    Blk wx gy 46 #[.string ⟨#[]⟩, .slice (some ⟨gn, 0, none⟩) (s.size + 1) (s.size + 1)] ∧ Blk wx gn 5 (u8s (backTo (s.size + 1) 0 (m.map swp))) ∧ Ext w wx ∧ w.heap.size ≤ gb ∧ w.heap.size ≤ gy ∧ w.heap.size ≤ gn ∧ gb ≠ gn)
  case first =>
    go_wp2
    go_meet
    case rel =>
      refine ⟨w.heap.size, w.heap.size + 1 + 1, w.heap.size + 1, rfl, rfl, ?_, ?_, ?_, ?_, by omega, by omega, by omega, by omega⟩
      · rw [backTo_zero]; exact ((Blk.new w 5 _).alloc _).alloc _
      · simpa using Blk.new ((w.alloc _).alloc _) 46 _
      · rw [backTo_zero]; simpa using (Blk.new (w.alloc _) 5 _).alloc _
      · exact (((Ext.refl w).alloc _).alloc _).alloc _
  case rest =>
    obtain ⟨gb, gy, gn, rfl, rfl, hb, hy, hn, hx, lb, ly, ln, hne⟩ := hcut
    clear hmk hmk0 c0
    have ne1 : gb ≠ gy := hb.ne hy (by decide)
    have ne2 : gy ≠ gn := hy.ne hn (by decide)
    have xl : gx < w.heap.size := h1.lt
    have ml : gm < w.heap.size := h2.lt
    go_wp2
    go_loopw [22] (fun i wr => ∃ k : Nat, k ≤ s.size ∧ i = .int .i64 k ∧ Blk wr gb 5 (u8s (backTo s.size k s.data.toList)) ∧
      Blk wr gy 46 #[.string ⟨#[]⟩, .slice (some ⟨gn, 0, none⟩) (s.size + 1) (s.size + 1)] ∧ Blk wr gn 5 (u8s (backTo (s.size + 1) 0 (m.map swp))) ∧ Ext w wr) (fun i _ => s.size - (intOf i).toNat)
    case atStart => exact ⟨0, Nat.zero_le _, rfl, hb, hy, hn, hx⟩
    case round =>
      clear hb hy hn hx
      obtain ⟨k, hk, rfl, hb, hy, hn, hx⟩ := hrel
      by_cases hlt : k < s.size
      · have hsl : s.data.toList.length = s.size := by simp
        have hB := Lib.hid (backTo_step s.size k s.data.toList hlt hsl)
        have hj : s.size - 1 - k < (backTo s.size k s.data.toList).length := by rw [backTo_len _ _ _ hk hsl]; omega
        have hi1 : ((s.size : Int) - 1 - k).toNat = s.size - 1 - k := by omega
        have hi2 : (0 : Int) ≤ (s.size : Int) - 1 - k := by omega
        have hi3 : (s.size : Int) - 1 - k < s.size := by omega
        have c0 := (h1.ext hx).cell 0
        simp at c0
        have c2 := hb.cell (s.size - 1 - k)
        rw [u8s_get _ _ hj] at c2
        have f2 := hb.frozen (s.size - 1 - k)
        have HSL := Lib.hid hsl; clear hsl
        generalize (backTo s.size k s.data.toList).getD (s.size - 1 - k) 0 = y at *
        clear hj
        go_wp2
        go_roundw
        case rel =>
          refine ⟨k + 1, hlt, by go_num, ?_, hy.far (by exact Ne.symm ne1) _, hn.far (by exact Ne.symm hne) _, hx.setCell (by exact lb) _⟩
          rw [← hB.out, ← u8s_set, getD_byte s k hlt]
          exact hb.set _ _
        case measure => simp [intOf]; omega
      · have hks : k = s.size := by omega
        subst hks
        have c1 := (h1.ext hx).cell 1
        simp at c1
        rw [backTo_full _ _ (by simp)] at hb
        go_wp2
        go_loopw [43] (fun i wr => ∃ k : Nat, k ≤ s.size + 1 ∧ i = .int .i64 k ∧ Blk wr gb 5 (u8s s.data.toList.reverse) ∧
          Blk wr gy 46 #[.string ⟨#[]⟩, .slice (some ⟨gn, 0, none⟩) (s.size + 1) (s.size + 1)] ∧ Blk wr gn 5 (u8s (backTo (s.size + 1) k (m.map swp))) ∧ Ext w wr) (fun i _ => s.size + 1 - (intOf i).toNat)
        case atStart => exact ⟨0, Nat.zero_le _, rfl, hb, hy, hn, hx⟩
        case round =>
          clear hb hy hn hx c1
          obtain ⟨k, hk, rfl, hb, hy, hn, hx⟩ := hrel
          have hml : m.length ≤ s.size + 1 := Nat.le_of_eq HM.out
          have hml' : s.size + 1 ≤ m.length := Nat.le_of_eq HM.out.symm
          by_cases hlt : k < s.size + 1
          · have hlm : k < m.length := by omega
            have hsl : (m.map swp).length = s.size + 1 := by simpa using HM.out
            have hB := Lib.hid (backTo_step (s.size + 1) k (m.map swp) hlt hsl)
            have hj : s.size - k < (backTo (s.size + 1) k (m.map swp)).length := by rw [backTo_len _ _ _ hk hsl]; omega
            have hi1 : ((s.size : Int) - k).toNat = s.size - k := by omega
            have hi2 : (0 : Int) ≤ (s.size : Int) - k := by omega
            have c0 := (h2.ext hx).cell k
            rw [u8s_get _ _ hlm] at c0
            have c1 := hy.cell 1
            simp at c1
            have c2 := hn.cell (s.size - k)
            rw [u8s_get _ _ hj] at c2
            have f2 := hn.frozen (s.size - k)
            have HSL := Lib.hid hsl; clear hsl
            have hgm : (m.map swp).getD k 0 = swp (m.getD k 0) := by simp [List.getD_eq_getElem?_getD, List.getElem?_eq_getElem hlm]
            have HGM := Lib.hid hgm; clear hgm
            generalize (backTo (s.size + 1) k (m.map swp)).getD (s.size - k) 0 = y at *
            generalize m.getD k 0 = z at *
            clear hj
            go_wp2
            go_roundw
            case rel =>
              refine ⟨k + 1, hlt, by go_num, hb.far (by exact hne) _, hy.far (by exact ne2) _, ?_, hx.setCell (by exact ln) _⟩
              rw [← hB.out, HGM.out, ← u8s_set, ← swp_bits]
              exact hn.set _ _
            case measure => simp [intOf]; omega
          · have hks : k = s.size + 1 := by omega
            subst hks
            rw [backTo_full _ _ (by simpa using HM.out.symm)] at hn
            have hcv : (convert 44 9 (.slice (some ⟨gb, 0, none⟩) s.size s.size)).run Try.prog wr = .ok (.string (turnS s)) wr := by
              have := run_convert_bytes_back (P := Try.prog) wr 44 9 5 ⟨gb, 0, none⟩ s.size s.data.toList.reverse Try.underlying44 Try.underlying5 Try.underlying9 (fun j hj => by
                have := hb.cell j
                rw [u8s_get _ _ hj] at this
                have ea : (⟨gb, 0, none⟩ : Addr).add j = ⟨gb, j, none⟩ := by unfold Addr.add; split <;> simp_all
                rw [ea, this, List.getD_eq_getElem?_getD, List.getElem?_eq_getElem hj]
                rfl)
              simpa [turnS] using this
            have c4 := hy.cell 0
            simp at c4
            have f4 := hy.frozen 0
            go_wp2
            go_ret
            refine ⟨⟨_, rfl, gy, gn, rfl, ?_, ?_⟩, hx.setCell (by exact ly) _⟩
            · have := hy.set 0 (.string (turnS s))
              simpa [HM.out] using this
            · exact hn.far (by exact Ne.symm ne2) _

end Go.Proofs.Ytceolkbekmlhdaa
