/- Trees of the program's nodes, in plain words; how a tree lies in memory. No program. trawlnum.left and Few as contracts: how many of most are left behind a tree. Condition: the tree lies in memory. An argument of type api.Node opened: it is a tree in memory. No condition. As VwO, with what the view's datum is. An argument of type trawllaw11.View opened: a string and two ints. No condition. -/
import Derived.Test.YtgfknlkpdiejgaaGreatDoorLib
import Derived.Test.YtgfknlkpdiejgaaGreatDoorBits
import Derived.Test.YtgfknlkpdiejgaaGreatDoorProg
import Derived.RowKit
import Derived.ChangeArms
import Derived.ChangeSame
import Derived.WideShapes
import Derived.Deep.Slices
namespace Go.Proofs.YtgfknlkpdiejgaaGreatDoor
open Go Go.RowKit

structure Hd where
  kind : Int
  set : Nat → Bool
  num : Int
  min : Int
  max : Int
  bare : Bool
inductive Nd where
  | mk (h : Hd) (subs : List Nd)
def Nd.h : Nd → Hd | .mk h _ => h
def Nd.subs : Nd → List Nd | .mk _ s => s
/-- A node's cells; sv: its list. -/
def nodeC (h : Hd) (sv : Value) : List Value := [.int .i64 h.kind, .int .u64 (wd h.set 0 : Int), .int .u64 (wd h.set 1 : Int), .int .u64 (wd h.set 2 : Int), .int .u64 (wd h.set 3 : Int), sv, .int .i64 h.num, .int .i64 h.min, .int .i64 h.max, .bool h.bare]
mutual
def NdOk (W : World) : Nd → Value → Prop
  | .mk _ subs, sv => ∃ A c, sv = .slice A subs.length c ∧ NdsOk W subs A 0
def NdsOk (W : World) : List Nd → Option Addr → Nat → Prop
  | [], _, _ => True
  | n :: r, A, k => (∃ g o sv, A = some ⟨g, o, none⟩ ∧ (∀ i, i < 10 → W.cell? ⟨g, o + k * 10 + i, none⟩ = (nodeC n.h sv)[i]?) ∧ NdOk W n sv) ∧ NdsOk W r A (k + 1)
end
mutual
theorem NdOk.ext {W W' : World} (hx : Ext W W') : ∀ (n : Nd) (sv : Value), NdOk W n sv → NdOk W' n sv
  | .mk _ subs, _ => fun ⟨A, c, h1, h2⟩ => ⟨A, c, h1, NdsOk.ext hx subs A 0 h2⟩
theorem NdsOk.ext {W W' : World} (hx : Ext W W') : ∀ (l : List Nd) (A : Option Addr) (k : Nat), NdsOk W l A k → NdsOk W' l A k
  | [], _, _ => fun _ => trivial
  | n :: r, A, k => fun ⟨⟨g, o, sv, h1, h2, h3⟩, h4⟩ => ⟨⟨g, o, sv, h1, fun i hi => (by
      have e := h2 i hi
      have hs : (nodeC n.h sv)[i]? = some (nodeC n.h sv)[i] := List.getElem?_eq_getElem (by simpa [nodeC] using hi)
      rw [hs] at e ⊢
      exact hx.cell e), NdOk.ext hx n sv h3⟩, NdsOk.ext hx r A (k + 1) h4⟩
end
theorem NdsOk.get {W : World} : ∀ {l : List Nd} {A : Option Addr} {k : Nat}, NdsOk W l A k → ∀ j (hj : j < l.length), ∃ g o sv, A = some ⟨g, o, none⟩ ∧ (∀ i, i < 10 → W.cell? ⟨g, o + (k + j) * 10 + i, none⟩ = (nodeC (l[j]).h sv)[i]?) ∧ NdOk W l[j] sv
  | [], _, _, _, j, hj => absurd hj (Nat.not_lt_zero _)
  | _ :: _, _, _, ⟨h1, _⟩, 0, _ => h1
  | _ :: r, A, k, ⟨_, h2⟩, j + 1, hj => by
    obtain ⟨g, o, sv, h3, h4, h5⟩ := NdsOk.get h2 j (by simpa using hj)
    refine ⟨g, o, sv, h3, fun i hi => ?_, h5⟩
    rw [show k + (j + 1) = k + 1 + j by omega]
    exact h4 i hi
theorem NdsOk.of {W : World} {A : Option Addr} : ∀ {l : List Nd} {k : Nat}, (∀ j (hj : j < l.length), ∃ g o sv, A = some ⟨g, o, none⟩ ∧ (∀ i, i < 10 → W.cell? ⟨g, o + (k + j) * 10 + i, none⟩ = (nodeC (l[j]).h sv)[i]?) ∧ NdOk W l[j] sv) → NdsOk W l A k
  | [], _, _ => trivial
  | n :: r, k, h => ⟨h 0 (by simp), NdsOk.of (k := k + 1) fun j hj => by
    obtain ⟨g, o, sv, h3, h4, h5⟩ := h (j + 1) (by simpa using hj)
    refine ⟨g, o, sv, h3, fun i hi => ?_, h5⟩
    rw [show k + 1 + j = k + (j + 1) by omega]
    exact h4 i hi⟩

end Go.Proofs.YtgfknlkpdiejgaaGreatDoor

namespace Go.Proofs.YtgfknlkpdiejgaaGreatDoor
open Go Go.RowKit

theorem Nd.ind {p : Nd → Prop} (h : ∀ hd subs, (∀ n ∈ subs, p n) → p (.mk hd subs)) : ∀ n, p n := fun n => by
  refine Nd.rec (motive_1 := p) (motive_2 := fun l => ∀ n ∈ l, p n) (fun hd subs ih => h hd subs ih) (fun n hn => by cases hn) (fun a l ha hl n hn => ?_) n
  rcases List.mem_cons.1 hn with rfl | hn
  · exact ha
  · exact hl n hn

mutual
def leftN : Nd → Int → Int
  | .mk _ subs, m => leftL subs (m - 1)
def leftL : List Nd → Int → Int
  | [], m => m
  | n :: r, m => if 0 ≤ m then leftL r (leftN n m) else m
end
theorem leftL_neg : ∀ (l : List Nd) (m : Int), m < 0 → leftL l m = m
  | [], _, _ => rfl
  | _ :: _, m, h => by unfold leftL; rw [if_neg (by omega)]
theorem leftL_app : ∀ (a b : List Nd) (m : Int), leftL (a ++ b) m = leftL b (leftL a m)
  | [], _, _ => rfl
  | n :: a, b, m => by
    show leftL (n :: (a ++ b)) m = leftL b (leftL (n :: a) m)
    by_cases h : 0 ≤ m
    · rw [show leftL (n :: (a ++ b)) m = leftL (a ++ b) (leftN n m) by rw [leftL, if_pos h], show leftL (n :: a) m = leftL a (leftN n m) by rw [leftL, if_pos h]]
      exact leftL_app a b _
    · rw [leftL_neg _ _ (by omega), leftL_neg (n :: a) _ (by omega), leftL_neg _ _ (by omega)]
theorem leftL_one (n : Nd) (m : Int) (h : 0 ≤ m) : leftL [n] m = leftN n m := by rw [leftL, if_pos h, leftL]
mutual
theorem leftN_range : ∀ (n : Nd) (m : Int), 0 ≤ m → -1 ≤ leftN n m ∧ leftN n m < m
  | .mk _ subs, m, h => by
    have := leftL_range subs (m - 1) (by omega)
    unfold leftN
    omega
theorem leftL_range : ∀ (l : List Nd) (m : Int), -1 ≤ m → -1 ≤ leftL l m ∧ leftL l m ≤ m
  | [], m, h => by unfold leftL; omega
  | n :: r, m, h => by
    unfold leftL
    split
    · rename_i h0
      have h1 := leftN_range n m h0
      have h2 := leftL_range r (leftN n m) h1.1
      omega
    · omega
end
theorem leftL_len : ∀ (l : List Nd) (m : Int), 0 ≤ leftL l m → leftL l m + l.length ≤ m
  | [], m, _ => by unfold leftL; simp
  | n :: r, m, h => by
    by_cases h0 : 0 ≤ m
    · rw [leftL, if_pos h0] at h ⊢
      have h1 := leftL_len r _ h
      have h2 := leftN_range n m h0
      simp only [List.length_cons]
      omega
    · rw [leftL_neg _ _ (by omega)] at h
      omega
theorem take_snoc {α : Type} (l : List α) (k : Nat) (h : k < l.length) : l.take (k + 1) = l.take k ++ [l[k]] := by
  rw [List.take_add_one, List.getElem?_eq_getElem h]; rfl

/-- A node as a value. -/
def nodeV (h : Hd) (sv : Value) : Value := .agg #[.int .i64 h.kind, .int .u64 (wd h.set 0 : Int), .int .u64 (wd h.set 1 : Int), .int .u64 (wd h.set 2 : Int), .int .u64 (wd h.set 3 : Int), sv, .int .i64 h.num, .int .i64 h.min, .int .i64 h.max, .bool h.bare]

theorem node_cells {w W : World} {g o k : Nat} {h : Hd} {sv : Value} (hx : Ext w W) (hc : ∀ i, i < 10 → w.cell? ⟨g, o + (0 + k) * 10 + i, none⟩ = (nodeC h sv)[i]?) :
    W.cell? ⟨g, o + k * 10, none⟩ = some (.int .i64 h.kind) ∧ W.cell? ⟨g, o + k * 10 + 1, none⟩ = some (.int .u64 (wd h.set 0 : Int)) ∧ W.cell? ⟨g, o + k * 10 + 2, none⟩ = some (.int .u64 (wd h.set 1 : Int)) ∧ W.cell? ⟨g, o + k * 10 + 3, none⟩ = some (.int .u64 (wd h.set 2 : Int)) ∧ W.cell? ⟨g, o + k * 10 + 4, none⟩ = some (.int .u64 (wd h.set 3 : Int)) ∧
    W.cell? ⟨g, o + k * 10 + 5, none⟩ = some sv ∧ W.cell? ⟨g, o + k * 10 + 6, none⟩ = some (.int .i64 h.num) ∧ W.cell? ⟨g, o + k * 10 + 7, none⟩ = some (.int .i64 h.min) ∧ W.cell? ⟨g, o + k * 10 + 8, none⟩ = some (.int .i64 h.max) ∧ W.cell? ⟨g, o + k * 10 + 9, none⟩ = some (.bool h.bare) := by
  rw [Nat.zero_add] at hc
  exact ⟨hx.cell (hc 0 (by omega)), hx.cell (hc 1 (by omega)), hx.cell (hc 2 (by omega)), hx.cell (hc 3 (by omega)), hx.cell (hc 4 (by omega)), hx.cell (hc 5 (by omega)), hx.cell (hc 6 (by omega)), hx.cell (hc 7 (by omega)), hx.cell (hc 8 (by omega)), hx.cell (hc 9 (by omega))⟩

set_option maxRecDepth 100000 in
set_option maxHeartbeats 4000000 in
theorem left_any : ∀ (n : Nd) (sv : Value) (m : Int) (w : World), NdOk w n sv → 0 ≤ m → m ≤ 1000000 →
    Calls Tryz.prog 39 #[nodeV n.h sv, .int .i64 m] w fun r w' => r = .returned (.int .i64 (leftN n m)) ∧ Ext w w' := by
  refine Nd.ind fun hd subs ih sv m w hn h0 h1 => ?_
  unfold NdOk at hn
  obtain ⟨A, c, rfl, hs⟩ := hn
  have IH := Lib.hid ih
  have HS := Lib.hid hs
  clear ih hs
  show Calls _ _ #[nodeV hd _, _] _ _
  unfold nodeV
  obtain ⟨kind, set, num, mn, mx, bare⟩ := hd
  simp only
  have q0 : IntKind.i64.wrap (m - 1) = m - 1 := by rw [IntKind.wrap_i64]; omega
  go_enter Tryz.func39, Tryz.ntmps39
  go_upto_region 2 with fail
  have nb := Blk.new w 27 #[.int .i64 kind, .int .u64 (wd set 0 : Int), .int .u64 (wd set 1 : Int), .int .u64 (wd set 2 : Int), .int .u64 (wd set 3 : Int), .slice A subs.length c, .int .i64 num, .int .i64 mn, .int .i64 mx, .bool bare]
  have hx1 := (Ext.refl w).alloc (.cells #[.int .i64 kind, .int .u64 (wd set 0 : Int), .int .u64 (wd set 1 : Int), .int .u64 (wd set 2 : Int), .int .u64 (wd set 3 : Int), .slice A subs.length c, .int .i64 num, .int .i64 mn, .int .i64 mx, .bool bare] 27)
  generalize w.alloc (.cells #[.int .i64 kind, .int .u64 (wd set 0 : Int), .int .u64 (wd set 1 : Int), .int .u64 (wd set 2 : Int), .int .u64 (wd set 3 : Int), .slice A subs.length c, .int .i64 num, .int .i64 mn, .int .i64 mx, .bool bare] 27) = w1 at *
  generalize w.heap.size = b at *
  go_wp2
  go_loopw [1, 5] (fun mv i wr => ∃ k : Nat, k ≤ subs.length ∧ i = .int .i64 k ∧ mv = .int .i64 (leftL (subs.take k) (m - 1)) ∧ Ext w wr ∧ Ext w1 wr) (fun _ i _ => subs.length - (intOf i).toNat)
  case atStart => exact ⟨0, Nat.zero_le _, rfl, by rw [List.take_zero, leftL], hx1, Ext.refl _⟩
  case round =>
    obtain ⟨k, hk, rfl, rfl, hx, hx2⟩ := hrel
    have c5 := (nb.ext hx2).cell 5
    simp only [List.getElem?_toArray, List.getElem?_cons_succ, List.getElem?_cons_zero] at c5
    obtain ⟨hr1, hr2⟩ := leftL_range (subs.take k) (m - 1) (by omega)
    by_cases hlt : k < subs.length
    · by_cases hge : 0 ≤ leftL (subs.take k) (m - 1)
      · obtain ⟨g, o, sv, rfl, hcell, hok⟩ := HS.out.get k hlt
        have hstep := leftL_app (subs.take k) [subs[k]] (m - 1)
        rw [← take_snoc subs k hlt, leftL_one _ _ hge] at hstep
        have HST := Lib.hid hstep
        have IHk := Lib.hid (fun w' (hw' : Ext w w') => IH.out subs[k] (List.getElem_mem hlt) sv _ w' (NdOk.ext hw' _ _ hok) hge (by omega))
        obtain ⟨e0, e1, e2, e3, e4, e5, e6, e7, e8, e9⟩ := node_cells hx hcell
        have hkb := leftL_len (subs.take k) (m - 1) hge
        rw [List.length_take, Nat.min_eq_left hk] at hkb
        have hk6 : (k : Int) ≤ 1000000 := by omega
        have q8 : IntKind.i64.wrap ((k : Int) + 1) = ((k + 1 : Nat) : Int) := by rw [IntKind.wrap_i64]; omega
        clear hstep hok hcell IH HS hx1 nb hkb
        generalize subs[k] = nk at *
        obtain ⟨⟨k2, t2, n2, mn2, mx2, b2⟩, sub2⟩ := nk
        simp only [Nd.h] at *
        unfold nodeV at IHk
        simp only at IHk
        generalize leftL (subs.take k) (m - 1) = cur at *
        generalize leftN (.mk ⟨k2, t2, n2, mn2, mx2, b2⟩ sub2) cur = res at *
        have d1 : (k : Int) < (subs.length : Int) := by omega
        go_wp2_with (go_at_call 39; refine (IHk.out _ hx).mono ?_; rintro e w' ⟨rfl, hx'⟩)
        go_roundw
        case rel => exact ⟨k + 1, by omega, by go_num, by rw [HST.out], hx.trans hx', hx2.trans hx'⟩
        case measure => simp [intOf]; omega
      · have hfin : leftL subs (m - 1) = leftL (subs.take k) (m - 1) := by
          conv => lhs; rw [← List.take_append_drop k subs, leftL_app, leftL_neg _ _ (by omega)]
        have HF := Lib.hid hfin
        clear hfin IH HS nb hx1
        generalize leftL (subs.take k) (m - 1) = cur at *
        have d1 : (k : Int) < (subs.length : Int) := by omega
        have d2 : cur < 0 := by omega
        go_wp2
        go_ret
        exact ⟨by rw [leftN, HF.out]; rfl, hx⟩
    · have hkl : subs.take k = subs := List.take_of_length_le (by omega)
      rw [hkl]
      clear hkl IH HS nb hx1
      have d1 : ¬ (k : Int) < (subs.length : Int) := by omega
      go_wp2
      go_ret
      exact ⟨by rw [leftN]; rfl, hx⟩

set_option maxRecDepth 100000 in
set_option maxHeartbeats 4000000 in
theorem few_any (n : Nd) (sv : Value) (m : Int) (w : World) (hn : NdOk w n sv) (h0 : 0 ≤ m) (h1 : m ≤ 1000000) :
    Calls Tryz.prog 21 #[nodeV n.h sv, .int .i64 m] w fun r w' => r = .returned (.bool (decide (0 ≤ leftN n m))) ∧ Ext w w' := by
  have IH := Lib.hid (fun W (hW : Ext w W) => left_any n sv m W (NdOk.ext hW _ _ hn) h0 h1)
  obtain ⟨⟨k2, t2, n2, mn2, mx2, b2⟩, sub2⟩ := n
  obtain ⟨A, c, rfl, _⟩ := hn
  simp only [Nd.h] at *
  unfold nodeV at *
  simp only at *
  generalize leftN (.mk ⟨k2, t2, n2, mn2, mx2, b2⟩ sub2) m = res at *
  go_enter Tryz.func21, Tryz.ntmps21
  go_wp2_with (go_at_call 39; refine (IH.out _ ((Ext.refl w).alloc _)).mono ?_; rintro e w' ⟨rfl, hx'⟩)
  go_ret
  exact ⟨rfl, ((Ext.refl w).alloc _).trans hx'⟩

end Go.Proofs.YtgfknlkpdiejgaaGreatDoor

namespace Go.Proofs.YtgfknlkpdiejgaaGreatDoor
open Go Go.RowKit Go.ChangeShapes Go.WideShapes Go.ChangeAt Go.Deep

section
variable {H : Type} {enc : TypeId × Value → H} {w : World} {base : Nat} {spare : Nat → Bool} {held : Bool}
theorem cells_node : Tryz.prog.cellsOf 27 = 10 := by kernel_rfl
theorem cells_seti : Tryz.prog.cellsOf 24 = 4 := by kernel_rfl
theorem cells_inti : Tryz.prog.cellsOf 3 = 1 := by kernel_rfl
theorem cells_booli : Tryz.prog.cellsOf 4 = 1 := by kernel_rfl
theorem cells_nodes : Tryz.prog.cellsOf 25 = 1 := by kernel_rfl
theorem cells_u64i : Tryz.prog.cellsOf 22 = 1 := by kernel_rfl
theorem u64_nat7 {n : Int} (h : (Lit.int .u64 n).wf = true) : ∃ k : Nat, n = (k : Int) ∧ k < 18446744073709551616 := by
  obtain ⟨h0, h1⟩ : 0 ≤ n ∧ n ≤ 18446744073709551615 := by simpa [Lit.wf, IntKind.min, IntKind.max, IntKind.signed, IntKind.bits] using h
  obtain ⟨k, rfl⟩ := Int.eq_ofNat_of_zero_le h0
  exact ⟨k, rfl, by omega⟩
set_option maxRecDepth 100000 in
theorem open_words {n : Nat} {c0 c1 c2 c3 : Value} {x : DataW H × List MemPlace} (h : DataW.trod enc Tryz.prog w base spare held n 24 [c0, c1, c2, c3] = some x) : ∃ p : Nat → Bool, c0 = .int .u64 (wd p 0 : Int) ∧ c1 = .int .u64 (wd p 1 : Int) ∧ c2 = .int .u64 (wd p 2 : Int) ∧ c3 = .int .u64 (wd p 3 : Int) := by
  obtain ⟨y0, y1, y2, y3, n, he, h0, h1, h2, h3⟩ := trod_array4 Tryz.underlying24 cells_u64i h
  obtain ⟨n0, e0, x0, w0⟩ := DataW.trod_int Tryz.underlying22 h0
  obtain ⟨n1, e1, x1, w1⟩ := DataW.trod_int Tryz.underlying22 h1
  obtain ⟨n2, e2, x2, w2⟩ := DataW.trod_int Tryz.underlying22 h2
  obtain ⟨n3, e3, x3, w3⟩ := DataW.trod_int Tryz.underlying22 h3
  simp only [List.cons.injEq, and_true] at e0 e1 e2 e3
  subst e0 e1 e2 e3
  obtain ⟨k0, rfl, l0⟩ := u64_nat7 w0
  obtain ⟨k1, rfl, l1⟩ := u64_nat7 w1
  obtain ⟨k2, rfl, l2⟩ := u64_nat7 w2
  obtain ⟨k3, rfl, l3⟩ := u64_nat7 w3
  let a : Nat → Nat := fun i => if i = 0 then k0 else if i = 1 then k1 else if i = 2 then k2 else k3
  refine ⟨memOf a, ?_, ?_, ?_, ?_⟩
  · rw [wd_memOf a 0 (by simpa [a] using l0)]; rfl
  · rw [wd_memOf a 1 (by simpa [a] using l1)]; rfl
  · rw [wd_memOf a 2 (by simpa [a] using l2)]; rfl
  · rw [wd_memOf a 3 (by simpa [a] using l3)]; rfl

instance : Inhabited Nd := ⟨.mk ⟨0, fun _ => false, 0, 0, 0, false⟩ []⟩

set_option maxRecDepth 100000 in
theorem open_node_cs : ∀ (F : Nat) (cs : List Value) (x : DataW H × List MemPlace), DataW.trod enc Tryz.prog w base spare held F 27 cs = some x → ∃ (n : Nd) (sv : Value), cs = nodeC n.h sv ∧ NdOk w n sv := fun F => by
  induction F using Nat.strongRecOn with
  | ind F ih =>
    intro cs x h
    obtain ⟨xs, m, rfl, _, hl, hxs, hf⟩ := DataW.trod_struct Tryz.underlying27 h
    rw [cells_node] at hl
    obtain ⟨c0, c1, c2, c3, c4, c5, c6, c7, c8, c9, rfl⟩ : ∃ c0 c1 c2 c3 c4 c5 c6 c7 c8 c9, cs = [c0, c1, c2, c3, c4, c5, c6, c7, c8, c9] := by
      match cs, hl with
      | [c0, c1, c2, c3, c4, c5, c6, c7, c8, c9], _ => exact ⟨c0, c1, c2, c3, c4, c5, c6, c7, c8, c9, rfl⟩
    have hs : ∀ i, i < 7 → ∃ y, xs[i]? = some y := fun i hi => ⟨_, List.getElem?_eq_getElem (by rw [hxs]; exact hi)⟩
    have f0 : DataW.trod enc Tryz.prog w base spare held m 3 (List.take (Tryz.prog.cellsOf 3) (List.drop 0 [c0, c1, c2, c3, c4, c5, c6, c7, c8, c9])) = xs[0]? := hf 0 _ rfl
    have f1 : DataW.trod enc Tryz.prog w base spare held m 24 (List.take (Tryz.prog.cellsOf 24) (List.drop 1 [c0, c1, c2, c3, c4, c5, c6, c7, c8, c9])) = xs[1]? := hf 1 _ rfl
    have f2 : DataW.trod enc Tryz.prog w base spare held m 25 (List.take (Tryz.prog.cellsOf 25) (List.drop 5 [c0, c1, c2, c3, c4, c5, c6, c7, c8, c9])) = xs[2]? := hf 2 _ rfl
    have f3 : DataW.trod enc Tryz.prog w base spare held m 3 (List.take (Tryz.prog.cellsOf 3) (List.drop 6 [c0, c1, c2, c3, c4, c5, c6, c7, c8, c9])) = xs[3]? := hf 3 _ rfl
    have f4 : DataW.trod enc Tryz.prog w base spare held m 3 (List.take (Tryz.prog.cellsOf 3) (List.drop 7 [c0, c1, c2, c3, c4, c5, c6, c7, c8, c9])) = xs[4]? := hf 4 _ rfl
    have f5 : DataW.trod enc Tryz.prog w base spare held m 3 (List.take (Tryz.prog.cellsOf 3) (List.drop 8 [c0, c1, c2, c3, c4, c5, c6, c7, c8, c9])) = xs[5]? := hf 5 _ rfl
    have f6 : DataW.trod enc Tryz.prog w base spare held m 4 (List.take (Tryz.prog.cellsOf 4) (List.drop 9 [c0, c1, c2, c3, c4, c5, c6, c7, c8, c9])) = xs[6]? := hf 6 _ rfl
    obtain ⟨y0, hy0⟩ := hs 0 (by omega)
    obtain ⟨y1, hy1⟩ := hs 1 (by omega)
    obtain ⟨y2, hy2⟩ := hs 2 (by omega)
    obtain ⟨y3, hy3⟩ := hs 3 (by omega)
    obtain ⟨y4, hy4⟩ := hs 4 (by omega)
    obtain ⟨y5, hy5⟩ := hs 5 (by omega)
    obtain ⟨y6, hy6⟩ := hs 6 (by omega)
    rw [hy0] at f0
    rw [hy1] at f1
    rw [hy2] at f2
    rw [hy3] at f3
    rw [hy4] at f4
    rw [hy5] at f5
    rw [hy6] at f6
    simp only [cells_inti, cells_seti, cells_nodes, cells_booli, List.drop_succ_cons, List.drop_zero, List.take_succ_cons, List.take_zero] at f0 f1 f2 f3 f4 f5 f6
    obtain ⟨n0, e0, _, _⟩ := DataW.trod_int Tryz.underlying3 f0
    obtain ⟨p, rfl, rfl, rfl, rfl⟩ := open_words f1
    obtain ⟨n3, e3, _, _⟩ := DataW.trod_int Tryz.underlying3 f3
    obtain ⟨n4, e4, _, _⟩ := DataW.trod_int Tryz.underlying3 f4
    obtain ⟨n5, e5, _, _⟩ := DataW.trod_int Tryz.underlying3 f5
    obtain ⟨b6, e6, _⟩ := DataW.trod_bool Tryz.underlying4 f6
    simp only [List.cons.injEq, and_true] at e0 e3 e4 e5 e6
    subst e0 e3 e4 e5 e6
    rcases DataW.trod_slice Tryz.underlying25 f2 with ⟨e, _⟩ | ⟨a, len, cap, elems, rest, k, rfl, e, _, _, hlc, _, hel, hget, _, _⟩
    · simp only [List.cons.injEq, and_true] at e
      subst e
      exact ⟨.mk ⟨n0, p, n3, n4, n5, b6⟩ [], _, rfl, none, 0, rfl, trivial⟩
    · simp only [List.cons.injEq, and_true] at e
      subst e
      rw [cells_node] at hget
      obtain ⟨Fn, hFn⟩ := choose_lt (α := Nd) (n := len) (p := fun j n => ∃ sv, (∀ i, i < 10 → w.cell? (a.add (j * 10 + i)) = (nodeC n.h sv)[i]?) ∧ NdOk w n sv) (fun j hj => by
        have h1 := hget j hj
        rw [List.getElem?_eq_getElem (by omega), Option.bind_eq_some_iff] at h1
        obtain ⟨cs', h2, h3⟩ := h1
        obtain ⟨_, _, h5⟩ := World.cells?_some h2
        obtain ⟨n, sv, rfl, hok⟩ := ih k (by omega) cs' _ h3
        refine ⟨n, sv, fun i hi => ?_, hok⟩
        rw [← h5 i hi]
        congr 1
        unfold Addr.add
        split <;> split <;> split <;> simp_all <;> omega)
      refine ⟨.mk ⟨n0, p, n3, n4, n5, b6⟩ ((List.range len).map Fn), _, rfl, some a, cap, by simp, NdsOk.of fun j hj => ?_⟩
      simp only [List.length_map, List.length_range] at hj
      obtain ⟨sv, h1, h2⟩ := hFn j hj
      have hsp : a.spot = none := by
        obtain ⟨sv0, h3, _⟩ := hFn 0 (by omega)
        simpa [Addr.add] using World.cell?_spot (show w.cell? (a.add (0 * 10 + 0)) = some _ from h3 0 (by omega))
      refine ⟨a.block, a.off, sv, ?_, fun i hi => ?_, by simpa using h2⟩
      · obtain ⟨b, o, s⟩ := a; simp only at hsp; subst hsp; rfl
      · have := h1 i hi
        have ea : a.add (j * 10 + i) = ⟨a.block, a.off + (0 + j) * 10 + i, none⟩ := by
          obtain ⟨b, o, s⟩ := a
          simp only at hsp
          subst hsp
          unfold Addr.add
          split <;> simp_all <;> omega
        rw [ea] at this
        simpa using this
set_option maxRecDepth 100000 in
theorem open_node {r : Reach} {b0 : Nat} {v : Value} {d : DataW H} {qs : List MemPlace} (hval : Value.okWide Tryz.prog w r b0 27 v) (h : DataW.Trod enc Tryz.prog w base spare held 27 v d qs) : ∃ (n : Nd) (sv : Value), v = nodeV n.h sv ∧ NdOk w n sv := by
  obtain ⟨cs, rfl, hsz⟩ := okWide_struct Tryz.underlying27 hval
  obtain ⟨fuel, hf⟩ := h
  obtain ⟨n, sv, h1, h2⟩ := open_node_cs fuel _ _ hf
  refine ⟨n, sv, ?_, h2⟩
  obtain ⟨l⟩ := cs
  have h1 : l = nodeC n.h sv := by simpa [Value.cells] using h1
  subst h1
  rfl
end
end Go.Proofs.YtgfknlkpdiejgaaGreatDoor

namespace Go.Proofs.YtgfknlkpdiejgaaGreatDoor
open Go Go.RowKit Go.ChangeShapes Go.WideShapes Go.ChangeAt Go.Deep

section
variable {H : Type} {enc : TypeId × Value → H} {w : World} {base : Nat} {spare : Nat → Bool} {held : Bool}
theorem cells_view : Tryz.prog.cellsOf 29 = 3 := by kernel_rfl
theorem cells_str : Tryz.prog.cellsOf 9 = 1 := by kernel_rfl
/-- What a datum of a view is. -/
def ViewD (d : DataW H) (s : ByteArray) : Prop := ∃ ps, d = .agg ps ∧ ps[0]? = some (.lit (.string s.data.toList))
set_option maxRecDepth 100000 in
theorem open_viewS {r : Reach} {b0 : Nat} {v : Value} {d : DataW H} {qs : List MemPlace} (hval : Value.okWide Tryz.prog w r b0 29 v) (h : DataW.Trod enc Tryz.prog w base spare held 29 v d qs) : ∃ (s : ByteArray) (c e : Int), v = .agg #[.string s, .int .i64 c, .int .i64 e] ∧ ViewD d s ∧ (-9223372036854775808 ≤ c ∧ c ≤ 9223372036854775807) ∧ (-9223372036854775808 ≤ e ∧ e ≤ 9223372036854775807) := by
  obtain ⟨cs, rfl, hsz⟩ := okWide_struct Tryz.underlying29 hval
  obtain ⟨fuel, hf⟩ := h
  obtain ⟨xs, m, _, hxd, hl, hxs, hf⟩ := DataW.trod_struct Tryz.underlying29 hf
  rw [cells_view] at hl
  obtain ⟨l⟩ := cs
  simp only [Value.cells] at hl hf
  obtain ⟨c0, c1, c2, rfl⟩ : ∃ c0 c1 c2, l = [c0, c1, c2] := by
    match l, hl with
    | [c0, c1, c2], _ => exact ⟨c0, c1, c2, rfl⟩
  have hs : ∀ i, i < 3 → ∃ y, xs[i]? = some y := fun i hi => ⟨_, List.getElem?_eq_getElem (by rw [hxs]; exact hi)⟩
  have f0 : DataW.trod enc Tryz.prog w base spare held m 9 (List.take (Tryz.prog.cellsOf 9) (List.drop 0 [c0, c1, c2])) = xs[0]? := hf 0 _ rfl
  have f1 : DataW.trod enc Tryz.prog w base spare held m 3 (List.take (Tryz.prog.cellsOf 3) (List.drop 1 [c0, c1, c2])) = xs[1]? := hf 1 _ rfl
  have f2 : DataW.trod enc Tryz.prog w base spare held m 3 (List.take (Tryz.prog.cellsOf 3) (List.drop 2 [c0, c1, c2])) = xs[2]? := hf 2 _ rfl
  obtain ⟨y0, hy0⟩ := hs 0 (by omega)
  obtain ⟨y1, hy1⟩ := hs 1 (by omega)
  obtain ⟨y2, hy2⟩ := hs 2 (by omega)
  rw [hy0] at f0
  rw [hy1] at f1
  rw [hy2] at f2
  simp only [cells_inti, cells_str, List.drop_succ_cons, List.drop_zero, List.take_succ_cons, List.take_zero] at f0 f1 f2
  obtain ⟨s, e0, ey0, _⟩ := DataW.trod_string Tryz.underlying9 f0
  obtain ⟨n1, e1, _, r1⟩ := DataW.trod_int Tryz.underlying3 f1
  obtain ⟨n2, e2, _, r2⟩ := DataW.trod_int Tryz.underlying3 f2
  simp only [List.cons.injEq, and_true] at e0 e1 e2
  subst e0 e1 e2
  refine ⟨s, n1, n2, rfl, ⟨xs.map (·.1), congrArg Prod.fst hxd, by rw [List.getElem?_map, hy0, ey0]; rfl⟩, ?_, ?_⟩
  · simpa [Lit.wf, IntKind.min, IntKind.max, IntKind.signed, IntKind.bits] using r1
  · simpa [Lit.wf, IntKind.min, IntKind.max, IntKind.signed, IntKind.bits] using r2
theorem view_small {ts : List TypeId} {ds : List (DataW H)} (h : (DataW.weightsEach Tryz.prog ts ds).all (· ≤ reachBytes) = true) {j : Nat} {d : DataW H} (ht : ts[j]? = some 29) (hd : ds[j]? = some d) {s : ByteArray} (hw : ViewD d s) : s.size ≤ 200000000000000 := by
  obtain ⟨ps, rfl, h0⟩ := hw
  have h2 : reachBytes = 140737488351232 := by decide
  have h1 : s.size ≤ reachBytes := of_decide_eq_true (List.all_eq_true.1 h _ (DataW.weights_mem_each ht hd _ (by
    simp only [DataW.weights, Tryz.underlying29]
    refine DataW.weights_mem_each (j := 0) rfl h0 _ ?_
    simp only [DataW.weights, List.mem_cons, List.not_mem_nil, or_false]
    exact (show s.size = s.data.toList.length from (Array.length_toList (xs := s.data)).symm))))
  omega
end
end Go.Proofs.YtgfknlkpdiejgaaGreatDoor
