/- trawlnum.left and Few as contracts: how many of most are left behind a tree. Condition: the tree lies in memory. -/
import Derived.Test.YtgfknlkpdiejgaaDoorNodeP
import Derived.Test.YtgfknlkpdiejgaaDoorProg
namespace Go.Proofs.YtgfknlkpdiejgaaDoor
open Go Go.RowKit

theorem Nd.ind {p : Nd → Prop} (h : ∀ hd subs, (∀ n ∈ subs, p n) → p (.mk hd subs)) : ∀ n, p n := fun n => by
  refine Nd.rec (motive_1 := p) (motive_2 := fun l => ∀ n ∈ l, p n) (fun hd subs ih => h hd subs ih) (fun n hn => by cases hn) (fun a l ha hl n hn => ?_) n
  rcases List.mem_cons.1 hn with rfl | hn
  · exact ha
  · exact hl n hn

mutual
def leftN : Nd → Int → Int
  | .mk _ subs, m => leftL subs (m - 1)
def leftL : List Nd → Int → Int
  | [], m => m
  | n :: r, m => if 0 ≤ m then leftL r (leftN n m) else m
end
theorem leftL_neg : ∀ (l : List Nd) (m : Int), m < 0 → leftL l m = m
  | [], _, _ => rfl
  | _ :: _, m, h => by unfold leftL; rw [if_neg (by omega)]
theorem leftL_app : ∀ (a b : List Nd) (m : Int), leftL (a ++ b) m = leftL b (leftL a m)
  | [], _, _ => rfl
  | n :: a, b, m => by
    show leftL (n :: (a ++ b)) m = leftL b (leftL (n :: a) m)
    by_cases h : 0 ≤ m
    · rw [show leftL (n :: (a ++ b)) m = leftL (a ++ b) (leftN n m) by rw [leftL, if_pos h], show leftL (n :: a) m = leftL a (leftN n m) by rw [leftL, if_pos h]]
      exact leftL_app a b _
    · rw [leftL_neg _ _ (by omega), leftL_neg (n :: a) _ (by omega), leftL_neg _ _ (by omega)]
theorem leftL_one (n : Nd) (m : Int) (h : 0 ≤ m) : leftL [n] m = leftN n m := by rw [leftL, if_pos h, leftL]
mutual
theorem leftN_range : ∀ (n : Nd) (m : Int), 0 ≤ m → -1 ≤ leftN n m ∧ leftN n m < m
  | .mk _ subs, m, h => by
    have := leftL_range subs (m - 1) (by omega)
    unfold leftN
    omega
theorem leftL_range : ∀ (l : List Nd) (m : Int), -1 ≤ m → -1 ≤ leftL l m ∧ leftL l m ≤ m
  | [], m, h => by unfold leftL; omega
  | n :: r, m, h => by
    unfold leftL
    split
    · rename_i h0
      have h1 := leftN_range n m h0
      have h2 := leftL_range r (leftN n m) h1.1
      omega
    · omega
end
theorem leftL_len : ∀ (l : List Nd) (m : Int), 0 ≤ leftL l m → leftL l m + l.length ≤ m
  | [], m, _ => by unfold leftL; simp
  | n :: r, m, h => by
    by_cases h0 : 0 ≤ m
    · rw [leftL, if_pos h0] at h ⊢
      have h1 := leftL_len r _ h
      have h2 := leftN_range n m h0
      simp only [List.length_cons]
      omega
    · rw [leftL_neg _ _ (by omega)] at h
      omega
theorem take_snoc {α : Type} (l : List α) (k : Nat) (h : k < l.length) : l.take (k + 1) = l.take k ++ [l[k]] := by
  rw [List.take_add_one, List.getElem?_eq_getElem h]; rfl

/-- A node as a value. -/
def nodeV (h : Hd) (sv : Value) : Value := .agg #[.int .i64 h.kind, .int .u64 (wd h.set 0 : Int), .int .u64 (wd h.set 1 : Int), .int .u64 (wd h.set 2 : Int), .int .u64 (wd h.set 3 : Int), sv, .int .i64 h.num, .int .i64 h.min, .int .i64 h.max, .bool h.bare]

theorem node_cells {w W : World} {g o k : Nat} {h : Hd} {sv : Value} (hx : Ext w W) (hc : ∀ i, i < 10 → w.cell? ⟨g, o + (0 + k) * 10 + i, none⟩ = (nodeC h sv)[i]?) :
    W.cell? ⟨g, o + k * 10, none⟩ = some (.int .i64 h.kind) ∧ W.cell? ⟨g, o + k * 10 + 1, none⟩ = some (.int .u64 (wd h.set 0 : Int)) ∧ W.cell? ⟨g, o + k * 10 + 2, none⟩ = some (.int .u64 (wd h.set 1 : Int)) ∧ W.cell? ⟨g, o + k * 10 + 3, none⟩ = some (.int .u64 (wd h.set 2 : Int)) ∧ W.cell? ⟨g, o + k * 10 + 4, none⟩ = some (.int .u64 (wd h.set 3 : Int)) ∧
    W.cell? ⟨g, o + k * 10 + 5, none⟩ = some sv ∧ W.cell? ⟨g, o + k * 10 + 6, none⟩ = some (.int .i64 h.num) ∧ W.cell? ⟨g, o + k * 10 + 7, none⟩ = some (.int .i64 h.min) ∧ W.cell? ⟨g, o + k * 10 + 8, none⟩ = some (.int .i64 h.max) ∧ W.cell? ⟨g, o + k * 10 + 9, none⟩ = some (.bool h.bare) := by
  rw [Nat.zero_add] at hc
  exact ⟨hx.cell (hc 0 (by omega)), hx.cell (hc 1 (by omega)), hx.cell (hc 2 (by omega)), hx.cell (hc 3 (by omega)), hx.cell (hc 4 (by omega)), hx.cell (hc 5 (by omega)), hx.cell (hc 6 (by omega)), hx.cell (hc 7 (by omega)), hx.cell (hc 8 (by omega)), hx.cell (hc 9 (by omega))⟩

set_option maxRecDepth 100000 in
set_option maxHeartbeats 4000000 in
theorem left_any : ∀ (n : Nd) (sv : Value) (m : Int) (w : World), NdOk w n sv → 0 ≤ m → m ≤ 1000000 →
    Calls Tryd.prog 28 #[nodeV n.h sv, .int .i64 m] w fun r w' => r = .returned (.int .i64 (leftN n m)) ∧ Ext w w' := by
  refine Nd.ind fun hd subs ih sv m w hn h0 h1 => ?_
  unfold NdOk at hn
  obtain ⟨A, c, rfl, hs⟩ := hn
  have IH := Lib.hid ih
  have HS := Lib.hid hs
  clear ih hs
  show Calls _ _ #[nodeV hd _, _] _ _
  unfold nodeV
  obtain ⟨kind, set, num, mn, mx, bare⟩ := hd
  simp only
  have q0 : IntKind.i64.wrap (m - 1) = m - 1 := by rw [IntKind.wrap_i64]; omega
  go_enter Tryd.func28, Tryd.ntmps28
  go_upto_region 2 with fail
  have nb := Blk.new w 27 #[.int .i64 kind, .int .u64 (wd set 0 : Int), .int .u64 (wd set 1 : Int), .int .u64 (wd set 2 : Int), .int .u64 (wd set 3 : Int), .slice A subs.length c, .int .i64 num, .int .i64 mn, .int .i64 mx, .bool bare]
  have hx1 := (Ext.refl w).alloc (.cells #[.int .i64 kind, .int .u64 (wd set 0 : Int), .int .u64 (wd set 1 : Int), .int .u64 (wd set 2 : Int), .int .u64 (wd set 3 : Int), .slice A subs.length c, .int .i64 num, .int .i64 mn, .int .i64 mx, .bool bare] 27)
  generalize w.alloc (.cells #[.int .i64 kind, .int .u64 (wd set 0 : Int), .int .u64 (wd set 1 : Int), .int .u64 (wd set 2 : Int), .int .u64 (wd set 3 : Int), .slice A subs.length c, .int .i64 num, .int .i64 mn, .int .i64 mx, .bool bare] 27) = w1 at *
  generalize w.heap.size = b at *
  go_wp2
  go_loopw [1, 5] (fun mv i wr => ∃ k : Nat, k ≤ subs.length ∧ i = .int .i64 k ∧ mv = .int .i64 (leftL (subs.take k) (m - 1)) ∧ Ext w wr ∧ Ext w1 wr) (fun _ i _ => subs.length - (intOf i).toNat)
  case atStart => exact ⟨0, Nat.zero_le _, rfl, by rw [List.take_zero, leftL], hx1, Ext.refl _⟩
  case round =>
    obtain ⟨k, hk, rfl, rfl, hx, hx2⟩ := hrel
    have c5 := (nb.ext hx2).cell 5
    simp only [List.getElem?_toArray, List.getElem?_cons_succ, List.getElem?_cons_zero] at c5
    obtain ⟨hr1, hr2⟩ := leftL_range (subs.take k) (m - 1) (by omega)
    by_cases hlt : k < subs.length
    · by_cases hge : 0 ≤ leftL (subs.take k) (m - 1)
      · obtain ⟨g, o, sv, rfl, hcell, hok⟩ := HS.out.get k hlt
        have hstep := leftL_app (subs.take k) [subs[k]] (m - 1)
        rw [← take_snoc subs k hlt, leftL_one _ _ hge] at hstep
        have HST := Lib.hid hstep
        have IHk := Lib.hid (fun w' (hw' : Ext w w') => IH.out subs[k] (List.getElem_mem hlt) sv _ w' (NdOk.ext hw' _ _ hok) hge (by omega))
        obtain ⟨e0, e1, e2, e3, e4, e5, e6, e7, e8, e9⟩ := node_cells hx hcell
        have hkb := leftL_len (subs.take k) (m - 1) hge
        rw [List.length_take, Nat.min_eq_left hk] at hkb
        have hk6 : (k : Int) ≤ 1000000 := by omega
        have q8 : IntKind.i64.wrap ((k : Int) + 1) = ((k + 1 : Nat) : Int) := by rw [IntKind.wrap_i64]; omega
        clear hstep hok hcell IH HS hx1 nb hkb
        generalize subs[k] = nk at *
        obtain ⟨⟨k2, t2, n2, mn2, mx2, b2⟩, sub2⟩ := nk
        simp only [Nd.h] at *
        unfold nodeV at IHk
        simp only at IHk
        generalize leftL (subs.take k) (m - 1) = cur at *
        generalize leftN (.mk ⟨k2, t2, n2, mn2, mx2, b2⟩ sub2) cur = res at *
        have d1 : (k : Int) < (subs.length : Int) := by omega
        go_wp2_with (go_at_call 28; refine (IHk.out _ hx).mono ?_; rintro e w' ⟨rfl, hx'⟩)
        go_roundw
        case rel => exact ⟨k + 1, by omega, by go_num, by rw [HST.out], hx.trans hx', hx2.trans hx'⟩
        case measure => simp [intOf]; omega
      · have hfin : leftL subs (m - 1) = leftL (subs.take k) (m - 1) := by
          conv => lhs; rw [← List.take_append_drop k subs, leftL_app, leftL_neg _ _ (by omega)]
        have HF := Lib.hid hfin
        clear hfin IH HS nb hx1
        generalize leftL (subs.take k) (m - 1) = cur at *
        have d1 : (k : Int) < (subs.length : Int) := by omega
        have d2 : cur < 0 := by omega
        go_wp2
        go_ret
        exact ⟨by rw [leftN, HF.out]; rfl, hx⟩
    · have hkl : subs.take k = subs := List.take_of_length_le (by omega)
      rw [hkl]
      clear hkl IH HS nb hx1
      have d1 : ¬ (k : Int) < (subs.length : Int) := by omega
      go_wp2
      go_ret
      exact ⟨by rw [leftN]; rfl, hx⟩

set_option maxRecDepth 100000 in
set_option maxHeartbeats 4000000 in
theorem few_any (n : Nd) (sv : Value) (m : Int) (w : World) (hn : NdOk w n sv) (h0 : 0 ≤ m) (h1 : m ≤ 1000000) :
    Calls Tryd.prog 14 #[nodeV n.h sv, .int .i64 m] w fun r w' => r = .returned (.bool (decide (0 ≤ leftN n m))) ∧ Ext w w' := by
  have IH := Lib.hid (fun W (hW : Ext w W) => left_any n sv m W (NdOk.ext hW _ _ hn) h0 h1)
  obtain ⟨⟨k2, t2, n2, mn2, mx2, b2⟩, sub2⟩ := n
  obtain ⟨A, c, rfl, _⟩ := hn
  simp only [Nd.h] at *
  unfold nodeV at *
  simp only at *
  generalize leftN (.mk ⟨k2, t2, n2, mn2, mx2, b2⟩ sub2) m = res at *
  go_enter Tryd.func14, Tryd.ntmps14
  go_wp2_with (go_at_call 28; refine (IH.out _ ((Ext.refl w).alloc _)).mono ?_; rintro e w' ⟨rfl, hx'⟩)
  go_ret
  exact ⟨rfl, ((Ext.refl w).alloc _).trans hx'⟩

end Go.Proofs.YtgfknlkpdiejgaaDoor
