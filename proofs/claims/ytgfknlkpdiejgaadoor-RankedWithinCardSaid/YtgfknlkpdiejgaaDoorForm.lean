/- tree.form as a contract: the tree is in form. Condition: the tree lies in memory, its lists are short. -/
import Derived.Test.YtgfknlkpdiejgaaDoorFormed
namespace Go.Proofs.YtgfknlkpdiejgaaDoor
open Go.RowKit

mutual
def formB : Nd → Bool
  | .mk h subs => formedB h subs.length && formL subs
def formL : List Nd → Bool
  | [] => true
  | n :: r => formB n && formL r
end
theorem formL_app : ∀ (a b : List Nd), formL (a ++ b) = (formL a && formL b)
  | [], _ => by simp [formL]
  | n :: a, b => by
    show formL (n :: (a ++ b)) = _
    rw [formL, formL, formL_app a b, Bool.and_assoc]
theorem formL_one (n : Nd) : formL [n] = formB n := by simp [formL]
mutual
def smallN : Nd → Prop
  | .mk _ subs => subs.length ≤ 1000000 ∧ smallL subs
def smallL : List Nd → Prop
  | [] => True
  | n :: r => smallN n ∧ smallL r
end
theorem smallL_mem : ∀ {l : List Nd}, smallL l → ∀ n ∈ l, smallN n
  | [], _, n, h => by cases h
  | a :: r, hs, n, h => by
    rcases List.mem_cons.1 h with rfl | h
    · exact hs.1
    · exact smallL_mem hs.2 n h
mutual
theorem small_left : ∀ (n : Nd) (m : Int), m ≤ 1000000 → 0 ≤ leftN n m → smallN n
  | .mk _ subs, m, h1, h => by
    unfold leftN at h
    have h2 := leftL_len subs (m - 1) h
    exact ⟨by omega, smallL_left subs (m - 1) (by omega) h⟩
theorem smallL_left : ∀ (l : List Nd) (m : Int), m ≤ 1000000 → 0 ≤ leftL l m → smallL l
  | [], _, _, _ => trivial
  | n :: r, m, h1, h => by
    by_cases h0 : 0 ≤ m
    · rw [leftL, if_pos h0] at h
      have h2 : 0 ≤ leftN n m := by
        rcases Int.lt_or_le (leftN n m) 0 with h3 | h3
        · rw [leftL_neg _ _ h3] at h; omega
        · exact h3
      have h3 := leftN_range n m h0
      exact ⟨small_left n m h1 h2, smallL_left r _ (by omega) h⟩
    · rw [leftL_neg _ _ (by omega)] at h
      omega
end

theorem NdOk.shape {W : World} : ∀ {n : Nd} {sv : Value}, NdOk W n sv → ∃ A c, sv = .slice A n.subs.length c
  | .mk _ _, _, ⟨A, c, h, _⟩ => ⟨A, c, h⟩

set_option maxRecDepth 100000 in
set_option maxHeartbeats 4000000 in
theorem form_any : ∀ (n : Nd) (sv : Value) (w : World), NdOk w n sv → smallN n →
    Calls Tryd.prog 16 #[nodeV n.h sv] w fun r w' => r = .returned (.bool (formB n)) ∧ Ext w w' := by
  refine Nd.ind fun hd subs ih sv w hn hsm => ?_
  unfold NdOk at hn
  obtain ⟨A, c, rfl, hs⟩ := hn
  obtain ⟨hlen, hsm⟩ := hsm
  have IH := Lib.hid (fun n hm sv w hn => ih n hm sv w hn (smallL_mem hsm n hm))
  have HS := Lib.hid hs
  have HF := Lib.hid (fun W => formed_any hd A subs.length c W)
  clear ih hs hsm
  show Calls _ _ #[nodeV hd _] _ _
  have hfb : formB (.mk hd subs) = (formedB hd subs.length && formL subs) := by rw [formB]
  rw [hfb]
  clear hfb
  generalize formedB hd subs.length = fb at *
  obtain ⟨kind, set, num, mn, mx, bare⟩ := hd
  unfold nodeV at *
  simp only at *
  go_enter Tryd.func16, Tryd.ntmps16
  go_upto_region 1 with fail
  have nb := Blk.new w 27 #[.int .i64 kind, .int .u64 (wd set 0 : Int), .int .u64 (wd set 1 : Int), .int .u64 (wd set 2 : Int), .int .u64 (wd set 3 : Int), .slice A subs.length c, .int .i64 num, .int .i64 mn, .int .i64 mx, .bool bare]
  have hx1 := (Ext.refl w).alloc (.cells #[.int .i64 kind, .int .u64 (wd set 0 : Int), .int .u64 (wd set 1 : Int), .int .u64 (wd set 2 : Int), .int .u64 (wd set 3 : Int), .slice A subs.length c, .int .i64 num, .int .i64 mn, .int .i64 mx, .bool bare] 27)
  generalize w.alloc (.cells #[.int .i64 kind, .int .u64 (wd set 0 : Int), .int .u64 (wd set 1 : Int), .int .u64 (wd set 2 : Int), .int .u64 (wd set 3 : Int), .slice A subs.length c, .int .i64 num, .int .i64 mn, .int .i64 mx, .bool bare] 27) = w1 at *
  generalize w.heap.size = b at *
  have c0 := nb.cell 0
  have c1 := nb.cell 1
  have c2 := nb.cell 2
  have c3 := nb.cell 3
  have c4 := nb.cell 4
  have c5 := nb.cell 5
  have c6 := nb.cell 6
  have c7 := nb.cell 7
  have c8 := nb.cell 8
  have c9 := nb.cell 9
  simp only [List.getElem?_toArray, List.getElem?_cons_succ, List.getElem?_cons_zero] at c0 c1 c2 c3 c4 c5 c6 c7 c8 c9
  cases fb
  · go_wp2_with (go_at_call 31; refine (HF.out _).mono ?_; rintro e w2 ⟨rfl, hx2⟩)
    go_ret
    exact ⟨rfl, hx1.trans hx2⟩
  · go_upto_region 3 with (go_at_call 31; refine (HF.out _).mono ?_; rintro e w2 ⟨rfl, hx2⟩)
    replace c5 := hx2.cell c5
    clear c0 c1 c2 c3 c4 c6 c7 c8 c9 HF
    go_wp2
    go_loopw [11] (fun i wr => ∃ k : Nat, k ≤ subs.length ∧ i = .int .i64 k ∧ formL (subs.take k) = true ∧ Ext w wr) (fun i _ => subs.length - (intOf i).toNat)
    case atStart => exact ⟨0, Nat.zero_le _, rfl, by rw [List.take_zero, formL], hx1.trans hx2⟩
    case round =>
      clear c5
      obtain ⟨k, hk, rfl, hfl, hx⟩ := hrel
      by_cases hlt : k < subs.length
      · obtain ⟨g, o, sv, rfl, hcell, hok⟩ := HS.out.get k hlt
        obtain ⟨A2, c2, rfl⟩ := hok.shape
        have hstep : formL (subs.take (k + 1)) = formB subs[k] := by rw [take_snoc subs k hlt, formL_app, hfl, formL_one, Bool.true_and]
        have hend : formB subs[k] = false → formL subs = false := fun h => by
          have := List.take_append_drop (k + 1) subs
          rw [← this, formL_app, hstep, h, Bool.false_and]
        have IHk := Lib.hid (fun w' (hw' : Ext w w') => IH.out subs[k] (List.getElem_mem hlt) _ w' (NdOk.ext hw' _ _ hok))
        obtain ⟨e0, e1, e2, e3, e4, e5, e6, e7, e8, e9⟩ := node_cells hx hcell
        have HST := Lib.hid hstep
        have HEN := Lib.hid hend
        clear hstep hok hcell IH HS hx1 nb hend hfl
        generalize subs[k] = nk at *
        obtain ⟨⟨k2, t2, n2, mn2, mx2, b2⟩, sub2⟩ := nk
        simp only [Nd.h] at *
        generalize formB (.mk ⟨k2, t2, n2, mn2, mx2, b2⟩ sub2) = res at *
        have d1 : (k : Int) < (subs.length : Int) := by omega
        generalize (Nd.mk ⟨k2, t2, n2, mn2, mx2, b2⟩ sub2).subs.length = len2 at *
        go_upto_region 6 with fail
        have hx4 := hx.alloc (.cells #[.int .i64 k2, .int .u64 (wd t2 0 : Int), .int .u64 (wd t2 1 : Int), .int .u64 (wd t2 2 : Int), .int .u64 (wd t2 3 : Int), .slice A2 len2 c2, .int .i64 n2, .int .i64 mn2, .int .i64 mx2, .bool b2] 27)
        cases res
        · go_wp2_with (go_at_call 16; refine (IHk.out _ hx4).mono ?_; rintro e w' ⟨rfl, hx'⟩)
          go_ret
          exact ⟨by rw [HEN.out (by trivial)]; rfl, hx4.trans hx'⟩
        · go_wp2_with (go_at_call 16; refine (IHk.out _ hx4).mono ?_; rintro e w' ⟨rfl, hx'⟩)
          go_roundw
          case rel => exact ⟨k + 1, by omega, by go_num, by rw [HST.out], hx4.trans hx'⟩
          case measure => simp [intOf]; omega
      · have hkl : subs.take k = subs := List.take_of_length_le (by omega)
        rw [hkl] at hfl
        go_wp2
        go_ret
        exact ⟨by rw [hfl]; rfl, hx⟩

end Go.Proofs.YtgfknlkpdiejgaaDoor
