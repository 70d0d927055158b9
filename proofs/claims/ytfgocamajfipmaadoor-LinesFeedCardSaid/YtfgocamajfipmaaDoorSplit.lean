/- The reference's Split and Lines, and trawlnum.SameTexts of a list and itself, as contracts. Condition: the length of the text. -/
import Derived.Test.YtfgocamajfipmaaDoorEnd
namespace Go.Proofs.YtfgocamajfipmaaDoor
open Go.RowKit

theorem strV_of (s : ByteArray) : Value.string s = strV s.data.toList := by
  unfold strV
  rfl
theorem strV_extract (s : ByteArray) (f k : Nat) : Value.string (s.extract f k) = strV ((s.data.toList.drop f).take (k - f)) := by
  rw [strV_of, Lib.extract_data]

/-- A slice of strings reads as a list. -/
def RdT (w : World) (v : Value) (ls : List (List UInt8)) : Prop :=
  ∃ A c, v = .slice A ls.length c ∧ ∀ j, j < ls.length → ∃ g o, A = some ⟨g, o, none⟩ ∧ w.cell? ⟨g, o + j, none⟩ = some (strV (ls.getD j []))
theorem RdT.ext {w w' : World} {v : Value} {ls : List (List UInt8)} (h : RdT w v ls) (hx : Ext w w') : RdT w' v ls := by
  obtain ⟨A, c, hv, hc⟩ := h
  exact ⟨A, c, hv, fun j hj => by obtain ⟨g, o, hA, hcell⟩ := hc j hj; exact ⟨g, o, hA, hx.cell hcell⟩⟩
theorem RdT.of_own {w : World} {B : Nat} {e : TypeId} {v : Value} {ls : List (List UInt8)} (h : Own1 w B e v (ls.map strV)) : RdT w v ls := by
  rcases h.slice with ⟨rfl, h0⟩ | ⟨g, cap, cur, rfl, _⟩
  · have : ls = [] := by simpa using h0
    subst this
    exact ⟨none, 0, rfl, fun j hj => absurd hj (Nat.not_lt_zero j)⟩
  · refine ⟨some ⟨g, 0, none⟩, cap, by rw [List.length_map], fun j hj => ⟨g, 0, rfl, ?_⟩⟩
    rw [Nat.zero_add]
    refine h.cells.2 j _ ?_
    rw [List.getElem?_map, List.getD_eq_getElem?_getD, List.getElem?_eq_getElem hj]
    rfl

set_option maxRecDepth 100000 in
set_option maxHeartbeats 2000000 in
theorem same_any (ls : List (List UInt8)) (va vb : Value) (w : World) (ha : RdT w va ls) (hb : RdT w vb ls) (hl : ls.length ≤ 1000000000000) :
    Calls Tryd.prog 11 #[va, vb] w fun r w' => r = .returned (.bool true) ∧ Ext w w' := by
  obtain ⟨A, c, rfl, hc⟩ := ha
  obtain ⟨A', c', rfl, hc'⟩ := hb
  have HA := Lib.hid hc
  have HB := Lib.hid hc'
  clear hc hc'
  go_enter Tryd.func11, Tryd.ntmps11
  go_wp2
  go_loopw [5, 13] (fun _ i wr => ∃ k : Nat, k ≤ ls.length ∧ i = .int .i64 k ∧ Ext w wr) (fun _ i _ => ls.length - (intOf i).toNat)
  case atStart => exact ⟨0, Nat.zero_le _, rfl, Ext.refl w⟩
  case round =>
    obtain ⟨k, hk, rfl, hx⟩ := hrel
    by_cases hlt : k < ls.length
    · obtain ⟨g, o, rfl, h1⟩ := HA.out k hlt
      obtain ⟨g', o', rfl, h2⟩ := HB.out k hlt
      replace h1 := hx.cell h1
      replace h2 := hx.cell h2
      unfold strV at h1 h2
      generalize (⟨(ls.getD k []).toArray⟩ : ByteArray) = t at h1 h2
      have d5 : (k : Int) < (ls.length : Int) := by omega
      go_upto_region 6 with fail
      go_region
      go_wp2
      go_roundw
      case rel => exact ⟨k + 1, by omega, by go_num, hx.drew⟩
      case measure => simp [intOf]; omega
    · go_wp2
      go_ret
      exact ⟨rfl, hx⟩

theorem drop_get (s : ByteArray) (k : Nat) (h : k < s.size) : s.data.toList.drop k = s[k] :: s.data.toList.drop (k + 1) := by
  have h' : k < s.data.toList.length := by simpa using h
  rw [List.drop_eq_getElem_cons h']
  rfl
theorem piece_snoc (s : ByteArray) (f k : Nat) (hf : f ≤ k) (h : k < s.size) : (s.data.toList.drop f).take (k + 1 - f) = (s.data.toList.drop f).take (k - f) ++ [s[k]] := by
  have h' : k < s.data.toList.length := by simpa using h
  have e : k + 1 - f = (k - f) + 1 := by omega
  have h2 : k - f < (s.data.toList.drop f).length := by rw [List.length_drop]; omega
  rw [e, List.take_succ_eq_append_getElem h2, List.getElem_drop]
  congr 2
  have : f + (k - f) = k := by omega
  simp only [this]
  rfl

set_option maxRecDepth 100000 in
set_option maxHeartbeats 2000000 in
theorem rSplit_any (s : ByteArray) (w : World) (hs : s.size ≤ 1000000000) :
    Calls Tryd.prog 13 #[.string s] w fun r w' => ∃ lv, r = .returned (.tuple #[lv, strV (splitL [] s.data.toList).2]) ∧ Own1 w' w.heap.size 9 lv ((splitL [] s.data.toList).1.map strV) ∧ Ext w w' := by
  go_enter Tryd.func13, Tryd.ntmps13
  go_wp2
  go_loopw [4, 5, 6] (fun lv fv i wr => ∃ (ls : List (List UInt8)) (f k : Nat), f ≤ k ∧ k ≤ s.size ∧ ls.length ≤ k ∧ fv = .int .i64 f ∧ i = .int .i64 k ∧ Own1 wr w.heap.size 9 lv (ls.map strV) ∧ Ext w wr ∧
      splitL [] s.data.toList = (ls ++ (splitL ((s.data.toList.drop f).take (k - f)) (s.data.toList.drop k)).1, (splitL ((s.data.toList.drop f).take (k - f)) (s.data.toList.drop k)).2)) (fun _ _ i _ => s.size - (intOf i).toNat)
  case atStart => exact ⟨[], 0, 0, Nat.le_refl _, Nat.zero_le _, Nat.zero_le _, rfl, rfl, Own1.nil _ _ _, Ext.refl w, by simp⟩
  case round =>
    obtain ⟨ls, f, k, hfk, hk, hlk, rfl, rfl, hL, hx, hsp⟩ := hrel
    have HSP := Lib.hid hsp
    clear hsp
    by_cases hlt : k < s.size
    · have hd := Lib.hid (drop_get s k hlt)
      have hpc := Lib.hid (piece_snoc s f k hfk hlt)
      have hex := Lib.hid (strV_extract s f k)
      by_cases hc : s[k] = 10
      · have hy : s[k].toNat = 10 := by rw [hc]; rfl
        rw [hc] at hd
        have HC := Lib.hid hc
        clear hc
        have hLL := Lib.hid hL
        obtain ⟨A4, c4, hv4, _⟩ := hL.shape
        rw [List.length_map] at hv4
        subst hv4
        have d1 : (0 : Int) ≤ (f : Int) := by omega
        have d2 : (f : Int) ≤ (k : Int) := by omega
        have d3 : (k : Int) ≤ (s.size : Int) := by omega
        go_upto_region 8 with (at_builtin; refine wpList_appK rfl (.tmp 17) (.tmp 22) 27 rfl w.heap.size 9 (.string ⟨#[]⟩) 16 Tryd.underlying27 info_str rfl (Value.slice A4 ls.length c4) (ls.map strV) [.string (s.extract f k)] rfl (hLL.out.keeps ((Keeps.refl (fun _ => False) _).alloc _) (fun _ _ hf => hf)) (.inr ⟨⟨wr.heap.size, 0, none⟩, 1, by rfl, cell_one_new _ _ _⟩) (by simp [Value.oneCell']) (by simp; omega) (by simp; omega) (by have := hx.size; simp; omega) ?_; intro v4 w4 own4 hg4 hb4 hn4; obtain ⟨A5, c5, rfl, _⟩ := own4.shape)
        have hK4 := ((Keeps.refl (fun k => (Value.slice A4 ls.length c4).ownBlock = some k) wr).alloc _).grown hg4 (fun k hk => .inr hk)
        go_wp2
        go_roundw
        case rel =>
          refine ⟨ls ++ [(s.data.toList.drop f).take (k - f)], k + 1, k + 1, Nat.le_refl _, by omega, by simp; omega, by go_num, by go_num, ?_, hx.keeps hK4 (fun i hi hf => by have := (hLL.out.own i hf).1; omega), ?_⟩
          · rw [List.map_append, List.map_cons, List.map_nil, ← hex.out]
            have := own4
            rw [List.length_append] at this
            simpa using this
          · rw [HSP.out, hd.out, splitL_nl]
            simp
        case measure => simp [intOf]; omega
      · have hy : ¬ s[k].toNat = 10 := fun e => hc (UInt8.toNat_inj.1 e)
        have hy2 : ¬ ((s[k].toNat : Int) = 10) := by omega
        have HC := Lib.hid hc
        have hy3 : ((s[k].toNat : Int) == 10) = false := by rw [beq_eq_false_iff_ne]; exact hy2
        go_wp2
        go_roundw
        case rel =>
          refine ⟨ls, f, k + 1, by omega, by omega, by omega, rfl, by go_num, hL, hx, ?_⟩
          rw [HSP.out, hpc.out, hd.out, splitL_ne _ _ _ HC.out]
        case measure => simp [intOf]; omega
    · have hkn : k = s.size := by omega
      have hex := strV_extract s f s.size
      have hd0 : s.data.toList.drop s.size = [] := List.drop_eq_nil_of_le (by simp)
      have hres : splitL [] s.data.toList = (ls, (s.data.toList.drop f).take (s.size - f)) := by
        have := HSP.out
        rw [hkn, hd0, splitL_nil, List.append_nil] at this
        exact this
      have HE := Lib.hid hex
      have HRE := Lib.hid hres
      have d1 : (0 : Int) ≤ (f : Int) := by omega
      have d2 : (f : Int) ≤ (s.size : Int) := by omega
      clear hd0 hex hres
      obtain ⟨A4, c4, rfl, _⟩ := hL.shape
      go_wp2
      go_region
      go_wp2
      go_ret2
      refine ⟨.slice A4 (ls.map strV).length c4, ?_, ?_, hx.drew⟩
      · rw [HRE.out, ← HE.out]
        rfl
      · rw [HRE.out]
        exact hL.ext ((Ext.refl wr).drew)

/-- All lines of a stream. -/
def allL (b : List UInt8) : List (List UInt8) := if (splitL [] b).2 = [] then (splitL [] b).1 else (splitL [] b).1 ++ [(splitL [] b).2]
set_option maxRecDepth 100000 in
set_option maxHeartbeats 2000000 in
theorem rLines_any (s : ByteArray) (w : World) (hs : s.size ≤ 1000000000) :
    Calls Tryd.prog 15 #[.string s] w fun r w' => ∃ lv, r = .returned lv ∧ Own1 w' w.heap.size 9 lv ((allL s.data.toList).map strV) ∧ Ext w w' := by
  have HS := Lib.hid (fun W => rSplit_any s W hs)
  have hlen := splitL_len s.data.toList []
  have hss : s.data.toList.length = s.size := by simp
  rw [hss] at hlen
  unfold allL
  generalize (splitL [] s.data.toList).1 = ls at *
  by_cases hr : (splitL [] s.data.toList).2 = []
  · rw [if_pos hr]
    rw [hr] at HS
    go_enter Tryd.func15, Tryd.ntmps15
    go_upto_region 2 with (go_at_call 13; refine (HS.out _).mono ?_; rintro e w1 ⟨lv, rfl, hL, hx⟩)
    unfold strV
    go_wp2
    go_ret
    exact ⟨_, rfl, hL, hx⟩
  · rw [if_neg hr]
    generalize (splitL [] s.data.toList).2 = rest at *
    have hne : (⟨rest.toArray⟩ : ByteArray).toList.isEmpty = false := by rw [ByteArray.toList_eq]; simp [hr]
    clear hr hss
    have hbe : strV rest = .string ⟨rest.toArray⟩ := rfl
    generalize (⟨rest.toArray⟩ : ByteArray) = rb at *
    simp only [hbe] at HS
    have HBE := Lib.hid hbe
    clear hbe
    go_enter Tryd.func15, Tryd.ntmps15
    go_upto_region 2 with (go_at_call 13; refine (HS.out _).mono ?_; rintro e w1 ⟨lv, rfl, hL, hx⟩)
    have hLL := Lib.hid hL
    clear hL
    go_upto_region 4 with (at_builtin; refine wpList_appK rfl (.tmp 12) (.tmp 14) 27 rfl w.heap.size 9 (.string ⟨#[]⟩) 16 Tryd.underlying27 info_str rfl lv (ls.map strV) [.string rb] rfl (hLL.out.keeps ((Keeps.refl (fun _ => False) _).alloc _) (fun _ _ hf => hf)) (.inr ⟨⟨w1.heap.size, 0, none⟩, 1, by rfl, cell_one_new _ _ _⟩) (by simp [Value.oneCell']) (by simp at hlen ⊢; omega) (by simp at hlen ⊢; omega) (by have := hx.size; simp; omega) ?_; intro v4 w4 own4 hg4 hb4 hn4)
    have hK4 := ((Keeps.refl (fun k => lv.ownBlock = some k) w1).alloc _).grown hg4 (fun k hk => .inr hk)
    go_wp2
    go_ret
    refine ⟨_, rfl, ?_, hx.keeps hK4 (fun i hi hf => by have := (hLL.out.own i hf).1; omega)⟩
    rw [List.map_append, List.map_cons, List.map_nil]
    rw [HBE.out]
    exact own4

end Go.Proofs.YtfgocamajfipmaaDoor
