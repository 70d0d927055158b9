/- tree.Depth as a contract. Condition: the tree lies in memory, it has few nodes. How many nodes are left behind a tree. No program. The program's 21 error values as a walk meets them: where they lie, that they are different, what errors.Is and trawlnum.Num answer of them. No condition but that the row's listed variables hold what the row lists. The three error values of tree.Check as a walk meets them. No condition but that the row's listed variables hold what the row lists. -/
import Derived.Test.YtkcgbdoplhgbmaaDoorDepthP
import Derived.Test.YtkcgbdoplhgbmaaDoorZNormalMakesAB
import Derived.Test.YtkcgbdoplhgbmaaDoorExpP
import Derived.Test.YtkcgbdoplhgbmaaDoorProg
import Derived.Test.YtkcgbdoplhgbmaaDoorLib
import Derived.LaidEql
import Derived.Stop.Asserts
import Derived.Stop.LaidErr
import Derived.RowKitTokens
namespace Go.Proofs.YtkcgbdoplhgbmaaDoor
open Go.RowKit

theorem max_if (a b : Int) : Max.max a b = if a < b then b else a := by rw [Int.max_def]; split <;> split <;> omega

set_option maxRecDepth 100000 in
set_option maxHeartbeats 8000000 in
theorem depth_any : ∀ (n : Nd) (sv : Value) (w : World) (m : Int), NdOk w n sv → m ≤ 1000000 → 0 ≤ leftN n m →
    Calls Tryd.prog 26 #[nodeV n.h sv] w fun r w' => r = .returned (.int .i64 (depthN n)) ∧ Ext w w' := by
  refine Nd.ind fun hd subs ih sv w m hn hm1 hfew => ?_
  unfold NdOk at hn
  obtain ⟨A, c, rfl, hs⟩ := hn
  have hrange := depthN_few (.mk hd subs) m hfew
  have hlr : leftN (.mk hd subs) m = leftL subs (m - 1) := by rw [leftN]
  rw [hlr] at hfew hrange
  have hlen := leftL_len subs (m - 1) hfew
  have IH := Lib.hid ih
  have HS := Lib.hid hs
  have HFW := Lib.hid hfew
  clear ih hs hlr
  show Calls _ _ #[nodeV hd _] _ _
  have hdz : depthN (.mk hd subs) = depthA 0 subs + (if deepB hd subs.length = true then 1 else 0) + 1 := by rw [depthN]
  have HZ := Lib.hid hdz
  generalize depthN (.mk hd subs) = ss at *
  clear hdz
  obtain ⟨kind, set, num, mn, mx, bare⟩ := hd
  unfold nodeV at *
  simp only at *
  go_enter Tryd.func26, Tryd.ntmps26
  go_upto_region 2 with fail
  have nb := Blk.new w 27 #[.int .i64 kind, .int .u64 (wd set 0 : Int), .int .u64 (wd set 1 : Int), .int .u64 (wd set 2 : Int), .int .u64 (wd set 3 : Int), .slice A subs.length c, .int .i64 num, .int .i64 mn, .int .i64 mx, .bool bare]
  have hx1 := (Ext.refl w).alloc (.cells #[.int .i64 kind, .int .u64 (wd set 0 : Int), .int .u64 (wd set 1 : Int), .int .u64 (wd set 2 : Int), .int .u64 (wd set 3 : Int), .slice A subs.length c, .int .i64 num, .int .i64 mn, .int .i64 mx, .bool bare] 27)
  generalize w.alloc (.cells #[.int .i64 kind, .int .u64 (wd set 0 : Int), .int .u64 (wd set 1 : Int), .int .u64 (wd set 2 : Int), .int .u64 (wd set 3 : Int), .slice A subs.length c, .int .i64 num, .int .i64 mn, .int .i64 mx, .bool bare] 27) = w1 at *
  generalize w.heap.size = b at *
  have c0 := nb.cell 0
  have c5 := nb.cell 5
  have c7 := nb.cell 7
  have c8 := nb.cell 8
  simp only [List.getElem?_toArray, List.getElem?_cons_succ, List.getElem?_cons_zero] at c0 c5 c7 c8
  clear nb
  have hx11 : Ext w1 w1 := Ext.refl w1
  go_wp2
  go_loopw [3, 9] (fun a i wr => ∃ k : Nat, k ≤ subs.length ∧ i = .int .i64 k ∧ a = .int .i64 (depthA 0 (subs.take k)) ∧ Ext w wr ∧ Ext w1 wr) (fun _ i _ => subs.length - (intOf i).toNat)
  case atStart => exact ⟨0, Nat.zero_le _, rfl, by rw [List.take_zero, depthA], hx1, hx11⟩
  case round =>
    obtain ⟨k, hk', rfl, rfl, hx, hx2⟩ := hrel
    have c5' := hx2.cell c5
    by_cases hlt : k < subs.length
    · obtain ⟨g, o, sv, rfl, hcell, hok⟩ := HS.out.get k hlt
      obtain ⟨A2, c2, rfl⟩ := hok.shape
      have hpre : 0 ≤ leftL (subs.take k) (m - 1) := by
        have h1 := HFW.out
        rw [← List.take_append_drop k subs, leftL_app] at h1
        rcases Int.lt_or_le (leftL (subs.take k) (m - 1)) 0 with h | h
        · rw [leftL_neg _ _ h] at h1; omega
        · exact h
      have hpre1 : 0 ≤ leftL (subs.take (k + 1)) (m - 1) := by
        have h1 := HFW.out
        rw [← List.take_append_drop (k + 1) subs, leftL_app] at h1
        rcases Int.lt_or_le (leftL (subs.take (k + 1)) (m - 1)) 0 with h | h
        · rw [leftL_neg _ _ h] at h1; omega
        · exact h
      rw [take_snoc subs k hlt, leftL_app, leftL_one _ _ hpre] at hpre1
      have hle := leftL_len (subs.take k) (m - 1) hpre
      have IHk := Lib.hid (fun w' (hw' : Ext w w') => IH.out subs[k] (List.getElem_mem hlt) _ w' _ (NdOk.ext hw' _ _ hok) (by omega) hpre1)
      have hstep : depthA 0 (subs.take (k + 1)) = Max.max (depthA 0 (subs.take k)) (depthN subs[k]) := by rw [take_snoc subs k hlt, depthA_app, depthA, depthA]
      obtain ⟨e0, e1, e2, e3, e4, e5, e6, e7, e8, e9⟩ := node_cells hx hcell
      have HST := Lib.hid hstep
      clear hstep hok hcell IH HS HZ HFW c5 hpre hpre1 hle c0 c7 c8
      generalize subs[k] = nk at *
      obtain ⟨⟨k2, t2, n2, mn2, mx2, b2⟩, sub2⟩ := nk
      simp only [Nd.h] at *
      generalize (Nd.mk ⟨k2, t2, n2, mn2, mx2, b2⟩ sub2).subs.length = len2 at *
      generalize depthN (.mk ⟨k2, t2, n2, mn2, mx2, b2⟩ sub2) = res at *
      generalize depthA 0 (subs.take k) = acc at *
      have d1 : (k : Int) < (subs.length : Int) := by omega
      go_upto_region 5 with fail
      have hx4 := hx.alloc (.cells #[.int .i64 k2, .int .u64 (wd t2 0 : Int), .int .u64 (wd t2 1 : Int), .int .u64 (wd t2 2 : Int), .int .u64 (wd t2 3 : Int), .slice A2 len2 c2, .int .i64 n2, .int .i64 mn2, .int .i64 mx2, .bool b2] 27)
      have hx5 := hx2.alloc (.cells #[.int .i64 k2, .int .u64 (wd t2 0 : Int), .int .u64 (wd t2 1 : Int), .int .u64 (wd t2 2 : Int), .int .u64 (wd t2 3 : Int), .slice A2 len2 c2, .int .i64 n2, .int .i64 mn2, .int .i64 mx2, .bool b2] 27)
      go_wp2_with (go_at_call 26; refine (IHk.out _ hx4).mono ?_; rintro e w' ⟨rfl, hx'⟩)
      go_roundw
      case rel => exact ⟨k + 1, by omega, by go_num, by rw [HST.out, max_if], hx4.trans hx', hx5.trans hx'⟩
      case measure => simp [intOf]; omega
    · have hkl : subs.take k = subs := List.take_of_length_le (by omega)
      rw [hkl]
      have ht := depthA_few subs (m - 1) 0 HFW.out (by omega)
      have hl0 := HFW.out
      generalize depthA 0 subs = tot at *
      have t0 : 0 ≤ tot := by omega
      have t1 : tot ≤ 2000000 := by omega
      have q1 : IntKind.i64.wrap (tot + 1) = tot + 1 := by rw [IntKind.wrap_i64]; omega
      have q2 : IntKind.i64.wrap (tot + 1 + 1) = tot + 1 + 1 := by rw [IntKind.wrap_i64]; omega
      have c0' := hx2.cell c0
      have c7' := hx2.cell c7
      have c8' := hx2.cell c8
      have d1 : ¬ (k : Int) < (subs.length : Int) := by omega
      have hdb : (deepB ⟨kind, set, num, mn, mx, bare⟩ subs.length = true ∧ kind = 8 ∧ (0 : Int) < (subs.length : Int) ∧ (mn ≠ 0 ∨ (mn = 0 ∧ mx ≠ 1 ∧ mx ≠ -1))) ∨ (deepB ⟨kind, set, num, mn, mx, bare⟩ subs.length = false ∧ (kind ≠ 8 ∨ ¬ (0 : Int) < (subs.length : Int) ∨ (mn = 0 ∧ (mx = 1 ∨ mx = -1)))) := by
        cases hd : deepB ⟨kind, set, num, mn, mx, bare⟩ subs.length
        · refine .inr ⟨rfl, ?_⟩
          simp only [deepB, Bool.and_eq_false_iff, Bool.or_eq_false_iff, decide_eq_false_iff_not] at hd
          omega
        · refine .inl ⟨rfl, ?_⟩
          simp only [deepB, Bool.and_eq_true, Bool.or_eq_true, decide_eq_true_eq] at hd
          omega
      clear IH HS ht hl0 hrange HFW
      rcases hdb with ⟨hd, rfl, hl, h | ⟨rfl, h, h'⟩⟩ | ⟨hd, h | h | ⟨rfl, rfl | rfl⟩⟩
      case' inl.inr =>
        have n1 : (mx == 1) = false := by simpa using h
        have n2 : (mx == -1) = false := by simpa using h'
        have n3 : (mx != 1) = true := by simpa using h
        have n4 : (mx != -1) = true := by simpa using h'
      all_goals
        have hss := Lib.hid HZ.out
        rw [hd] at hss
        clear HZ hd
        go_wp2
        all_goals
          go_ret
          exact ⟨by rw [hss.out]; first | rfl | (simp; done) | (simp; omega), hx⟩

end Go.Proofs.YtkcgbdoplhgbmaaDoor

namespace Go.Proofs.YtkcgbdoplhgbmaaDoor

mutual
theorem left_nodes : ∀ (n : Nd) (m : Int), nodesN n ≤ m → leftN n m = m - nodesN n
  | .mk h subs, m, hm => by
    rw [nodesN] at hm ⊢
    rw [leftN, leftL_nodes subs (m - 1) (by omega)]
    omega
theorem leftL_nodes : ∀ (l : List Nd) (m : Int), nodesL l ≤ m → leftL l m = m - nodesL l
  | [], m, _ => by rw [leftL, nodesL]; omega
  | n :: r, m, hm => by
    have h1 := nodesN_pos n
    have h2 := nodesL_pos r
    rw [nodesL] at hm ⊢
    rw [leftL, if_pos (by omega), left_nodes n m (by omega), leftL_nodes r _ (by omega)]
    omega
end
theorem left_few {n : Nd} {m : Int} (h : nodesN n ≤ m) : 0 ≤ leftN n m := by rw [left_nodes n m h]; omega


end Go.Proofs.YtkcgbdoplhgbmaaDoor

namespace Go.Proofs.YtkcgbdoplhgbmaaDoor
open Go.RowKit Go.Extern.Stop Go.Stop Go.Extern

/-- The variables' blocks, their names, their texts. -/
def gbs : List Nat := [0, 1, 2, 3, 4, 5, 6, 7, 8, 9, 10, 11, 12, 13, 14, 15, 16, 17, 18, 19, 20]
def gb (i : Nat) : Nat := gbs.getD i 0
def errNames : List String := ["trawl/api.ErrBracket", "trawl/api.ErrParen", "trawl/api.ErrBrace", "trawl/api.ErrCount", "trawl/api.ErrRange", "trawl/api.ErrClass", "trawl/api.ErrCollate", "trawl/api.ErrEscape", "trawl/api.ErrRepeat", "trawl/api.ErrTooBig", "trawl/api.ErrNest", "trawl/api.ErrLong", "trawl/api.ErrTree", "trawl/api.ErrDeep", "trawl/api.ErrArgument", "trawl/api.ErrNoMatch", "trawl/api.ErrImage", "trawl/api.ErrMany", "trawl/api.ErrOption", "trawl/api.ErrCommand", "trawl/api.ErrClosed"]
def errTexts : List (List UInt8) := [[116, 114, 97, 119, 108, 58, 32, 98, 114, 97, 99, 107, 101, 116],
  [116, 114, 97, 119, 108, 58, 32, 112, 97, 114, 101, 110, 116, 104, 101, 115, 105, 115],
  [116, 114, 97, 119, 108, 58, 32, 98, 114, 97, 99, 101],
  [116, 114, 97, 119, 108, 58, 32, 99, 111, 117, 110, 116],
  [116, 114, 97, 119, 108, 58, 32, 114, 97, 110, 103, 101],
  [116, 114, 97, 119, 108, 58, 32, 99, 108, 97, 115, 115],
  [116, 114, 97, 119, 108, 58, 32, 99, 111, 108, 108, 97, 116, 105, 110, 103],
  [116, 114, 97, 119, 108, 58, 32, 101, 115, 99, 97, 112, 101],
  [116, 114, 97, 119, 108, 58, 32, 114, 101, 112, 101, 97, 116],
  [116, 114, 97, 119, 108, 58, 32, 116, 111, 111, 32, 98, 105, 103],
  [116, 114, 97, 119, 108, 58, 32, 110, 101, 115, 116, 105, 110, 103],
  [116, 114, 97, 119, 108, 58, 32, 108, 111, 110, 103],
  [116, 114, 97, 119, 108, 58, 32, 116, 114, 101, 101],
  [116, 114, 97, 119, 108, 58, 32, 100, 101, 101, 112],
  [116, 114, 97, 119, 108, 58, 32, 97, 114, 103, 117, 109, 101, 110, 116],
  [116, 114, 97, 119, 108, 58, 32, 110, 111, 32, 109, 97, 116, 99, 104],
  [116, 114, 97, 119, 108, 58, 32, 105, 109, 97, 103, 101],
  [116, 114, 97, 119, 108, 58, 32, 109, 97, 110, 121],
  [116, 114, 97, 119, 108, 58, 32, 111, 112, 116, 105, 111, 110],
  [116, 114, 97, 119, 108, 58, 32, 99, 111, 109, 109, 97, 110, 100],
  [116, 114, 97, 119, 108, 58, 32, 99, 108, 111, 115, 101, 100]]
def errD (t : List UInt8) : DataW Unit := .iface "*errors.errorString" (.ptr (.agg [.lit (.string t)]))

/-- An error value. -/
def errV (a : Addr) : Value := .iface 138 (.pointer (some a))
structure ErrsAt (w : World) (A : Nat → Addr) : Prop where
  var : ∀ i, i < 21 → w.cell? ⟨gb i, 0, none⟩ = some (errV (A i))
  blk : ∀ i, i < 21 → ∃ c t, w.heap[(A i).block]? = some (.cells c t (0, 0))
  txt : ∀ i, i < 21 → ∃ s, w.cell? (A i) = some (.string s) ∧ s.data.toList = errTexts.getD i []
  ne : ∀ i j, i < 21 → j < 21 → i ≠ j → A i ≠ A j
theorem ErrsAt.ext {w w' : World} {A : Nat → Addr} (h : ErrsAt w A) (hx : Ext w w') : ErrsAt w' A :=
  ⟨fun i hi => hx.cell (h.var i hi), fun i hi => by
      obtain ⟨c, t, hc⟩ := h.blk i hi
      exact ⟨c, t, Blk.ext (t := t) (cs := c) hc hx⟩,
    fun i hi => by obtain ⟨s, h1, h2⟩ := h.txt i hi; exact ⟨s, hx.cell h1, h2⟩, h.ne⟩

/-! ### from the row's list to the walk's facts -/
theorem errStar : ("*errors.errorString" : String) = "*" ++ "errors.errorString" := by decide
theorem errRow (u : TypeId) (h : Tryd.prog.typeName? 3 u = some "*errors.errorString") : u = 138 :=
  typeName_ptr_named (nm := "errors.errorString") (by rw [← errStar]; kernel_rfl) (by kernel_rfl) (by decide) u (by rw [← errStar]; exact h)
theorem errUnder : ∃ f, Tryd.prog.underlying 140 = some (.struct #[f]) ∧ f.type = 9 ∧ f.offset = 0 := ⟨_, Tryd.underlying140, rfl, rfl⟩
theorem errCells : Tryd.prog.cellsOf 140 = 1 := by kernel_rfl
theorem strCells : Tryd.prog.cellsOf 9 = 1 := by kernel_rfl

set_option maxRecDepth 100000 in
/-- One sentinel after another: the pointers, and that each place is met once. -/
theorem laid_many {W : World} : ∀ (ns : List (String × Nat × List UInt8)) (ps : List MemPlace),
    (∀ x ∈ ns, Tryd.prog.globalNamed x.1 = some x.2.1 ∧ (Tryd.prog.globals[x.2.1]?).map (·.type) = some 32) →
    DataW.LaidVars Tryd.prog W (ns.map fun x => (x.1, errD x.2.2)) ps → ps.Nodup →
    (∀ b off, MemPlace.cell b off ∈ ps → (∃ c t, W.heap[b]? = some (.cells c t (0, 0))) ∧ ∀ u v, W.cell? ⟨b, off, none⟩ = some (.iface u v) → Value.okWide Tryd.prog W .any 0 u v) →
    ∃ al : List Addr, al.length = ns.length ∧ (∀ (i : Nat) x a, ns[i]? = some x → al[i]? = some a → W.cell? ⟨x.2.1, 0, none⟩ = some (errV a) ∧ (∃ c t, W.heap[a.block]? = some (.cells c t (0, 0))) ∧ ∃ s, W.cell? a = some (.string s) ∧ s.data.toList = x.2.2) ∧
      (∀ a ∈ al, MemPlace.cell a.block a.off ∈ ps) ∧ al.Nodup
  | [], ps, _, _, _, _ => ⟨[], rfl, fun i x a h => by simp at h, fun a h => by simp at h, List.nodup_nil⟩
  | x :: ns, ps, hg, h, hnd, hrows => by
    obtain ⟨g, t, cs, fuel, p, q, hg0, ht0, hv0, hd0, hq, rfl⟩ := h
    obtain ⟨e1, e2⟩ := hg x (by simp)
    obtain rfl := Option.some.inj (e1.symm.trans hg0)
    obtain rfl := Option.some.inj (e2.symm.trans ht0)
    obtain ⟨l0⟩ := cs
    have ok0 : ∀ u v, l0 = [.iface u v] → Value.okWide Tryd.prog W .any 0 u v := fun u v e => by
      subst e
      exact (hrows x.2.1 0 (by simp [MemPlace.row])).2 u v (by simpa using World.var?_cell hg0 hv0 0)
    obtain ⟨f, hu, hft, hfo⟩ := errUnder
    obtain ⟨a, s, rfl, hc, hs, hz, rfl⟩ := errorString_of_trod Tryd.underlying32 errRow Tryd.underlying138 hu hft hfo Tryd.underlying9 errCells strCells hd0 ok0
    obtain ⟨al, hl, hi, hm, hn⟩ := laid_many ns q (fun y hy => hg y (by simp [hy])) hq (List.Nodup.sublist (List.sublist_append_right _ _) hnd) (fun b off hb => hrows b off (by simp [hb]))
    refine ⟨a :: al, by simp [hl], fun i y b hy hb => ?_, fun b hb => ?_, ?_⟩
    · cases i with
      | zero =>
        simp only [List.getElem?_cons_zero, Option.some.injEq] at hy hb
        subst hy hb
        exact ⟨by simpa [errV] using World.var?_cell hg0 hv0 0, (hrows a.block a.off (by simp [MemPlace.row])).1, s, hc, hs⟩
      | succ i => exact hi i y b (by simpa using hy) (by simpa using hb)
    · rcases List.mem_cons.1 hb with rfl | hb
      · simp [MemPlace.row]
      · exact List.mem_append_right _ (hm b hb)
    · rw [List.nodup_cons]
      refine ⟨fun hin => ?_, hn⟩
      have hin2 := hm a hin
      have hd := (List.nodup_append.1 hnd).2.2
      exact hd (MemPlace.cell a.block a.off) (by simp [MemPlace.row]) _ hin2 rfl

def errList : List (String × Nat × List UInt8) := (List.range 21).map fun i => (errNames.getD i "", gb i, errTexts.getD i [])
def errLaid : List (String × DataW Unit) := errList.map fun x => (x.1, errD x.2.2)
theorem errs_at {W : World} (h : laidMet Tryd.prog errLaid W) : ∃ A, ErrsAt W A := by
  obtain ⟨ps, hv, hnd, hrows⟩ := h
  obtain ⟨al, hl, hi, _, hn⟩ := laid_many errList ps (by
    have hall : errList.all (fun x => decide (Tryd.prog.globalNamed x.1 = some x.2.1 ∧ (Tryd.prog.globals[x.2.1]?).map (·.type) = some 32)) = true := by kernel_rfl
    intro x hx
    exact of_decide_eq_true (List.all_eq_true.1 hall x hx)) hv hnd hrows
  have hl21 : al.length = 21 := by rw [hl]; rfl
  have hx : ∀ i, i < 21 → errList[i]? = some (errNames.getD i "", gb i, errTexts.getD i []) := fun i hi => by unfold errList; simp [hi]
  have ha : ∀ i, i < 21 → al[i]? = some (al.getD i ⟨0, 0, none⟩) := fun i hi => by rw [List.getD_eq_getElem?_getD, List.getElem?_eq_getElem (by omega)]; rfl
  refine ⟨fun i => al.getD i ⟨0, 0, none⟩, fun i h => (hi i _ _ (hx i h) (ha i h)).1, fun i h => (hi i _ _ (hx i h) (ha i h)).2.1, fun i h => (hi i _ _ (hx i h) (ha i h)).2.2, fun i j h1 h2 hne he => hne ?_⟩
  have e1 := ha i h1
  have e2 := ha j h2
  exact (List.getElem?_inj (by omega) hn).1 (e1.trans ((congrArg some he).trans e2.symm))

/-! ### errors.Is, where the target is one of them -/
theorem isTypeOf (v : Value) (w : World) : (Extern.ReflectliteType.typeOf #[.iface 138 v]).run Tryd.prog w = .ok (.iface 148 (.agg #[.pointer (some ⟨28, 138, none⟩)])) w := by kernel_rfl
/-- The model's entry for 'Comparable'. -/
def cmpEntry : Array Value → Sem Value := Extern.ReflectliteType.method fun t => do Go.Extern.Rtype.noPackHeld "Comparable" t; pure (.bool (← typeInfo t).comparable)
theorem isComparable (w : World) : (cmpEntry #[.agg #[.pointer (some ⟨28, 138, none⟩)]]).run Tryd.prog w = .ok (.bool true) w := by kernel_rfl
theorem isComp : (Tryd.prog.info? 138).map (·.comparable) = some true := by kernel_rfl
theorem isSize : (Tryd.prog.info? 140).map (·.size) = some 1 := by kernel_rfl
theorem noIsE (v : Value) (xT : TypeId) (w : World) : (Instr.typeAssert (.iface 138 v) xT 150 true).run Tryd.prog w = .ok (.tuple #[.nilIface, .bool false]) w := run_typeAssert_lacksB Tryd.underlying150 (by kernel_rfl) (by kernel_rfl) v xT w
theorem noUnwrapE (v : Value) (xT : TypeId) (w : World) : (Instr.typeAssert (.iface 138 v) xT 105 true).run Tryd.prog w = .ok (.tuple #[.nilIface, .bool false]) w := run_typeAssert_lacksB Tryd.underlying105 (by kernel_rfl) (by kernel_rfl) v xT w
theorem noUnwrapsE (v : Value) (xT : TypeId) (w : World) : (Instr.typeAssert (.iface 138 v) xT 153 true).run Tryd.prog w = .ok (.tuple #[.nilIface, .bool false]) w := run_typeAssert_lacksB Tryd.underlying153 (by kernel_rfl) (by kernel_rfl) v xT w

set_option maxRecDepth 100000 in
set_option maxHeartbeats 2000000 in
/-- errors.Is of one of them and itself. -/
theorem is_same (a : Addr) (w : World) :
    Calls Tryd.prog 63 #[errV a, errV a] w fun e w' => e = .returned (.bool true) ∧ w = w' := by
  unfold errV
  obtain ⟨i, hi, hcmp⟩ := Option.map_eq_some_iff.1 isComp
  obtain ⟨j, hj, hjs⟩ := Option.map_eq_some_iff.1 isSize
  have h8 := @run_callFunc_extern Tryd.prog 88 _ Extern.ReflectliteType.typeOf Tryd.func88 (by kernel_rfl) (by kernel_rfl) (by kernel_rfl) (by kernel_rfl)
  have h32 := @run_callFunc_extern Tryd.prog 181 _ cmpEntry Tryd.func181 (by kernel_rfl) (by kernel_rfl) (by kernel_rfl) (by kernel_rfl)
  have tT := isTypeOf
  have cT := isComparable
  have heq := run_eql_iface_ptr_same (P := Tryd.prog) w a Tryd.underlying32 Tryd.underlying138 hi hcmp hj
  go_enter Tryd.func63, Tryd.ntmps63
  go_wp2
  refine wp_loop_rounds 1 ?_
  rw [rounds_succ]
  go_wp2
  go_ret
  exact ⟨rfl, rfl⟩

set_option maxRecDepth 100000 in
set_option maxHeartbeats 2000000 in
/-- errors.Is of two different ones. -/
theorem is_other (a b : Addr) (ca cb : Array Value) (ta tb : TypeId) (w : World) (hne : a ≠ b) (ha : w.heap[a.block]? = some (.cells ca ta (0, 0))) (hb : w.heap[b.block]? = some (.cells cb tb (0, 0))) :
    Calls Tryd.prog 63 #[errV a, errV b] w fun e w' => e = .returned (.bool false) ∧ w = w' := by
  unfold errV
  obtain ⟨i, hi, hcmp⟩ := Option.map_eq_some_iff.1 isComp
  obtain ⟨j, hj, hjs⟩ := Option.map_eq_some_iff.1 isSize
  have h8 := @run_callFunc_extern Tryd.prog 88 _ Extern.ReflectliteType.typeOf Tryd.func88 (by kernel_rfl) (by kernel_rfl) (by kernel_rfl) (by kernel_rfl)
  have h32 := @run_callFunc_extern Tryd.prog 181 _ cmpEntry Tryd.func181 (by kernel_rfl) (by kernel_rfl) (by kernel_rfl) (by kernel_rfl)
  have tT := isTypeOf
  have cT := isComparable
  have nE := noIsE
  have uE := noUnwrapE
  have vE := noUnwrapsE
  have heq := run_eql_iface_ptr_other (P := Tryd.prog) w Tryd.underlying32 Tryd.underlying138 hi hcmp hj (by rw [hjs]; decide) hne ha hb
  go_enter Tryd.func63, Tryd.ntmps63
  go_wp2
  refine wp_loop_rounds 1 ?_
  rw [rounds_succ]
  go_wp2
  go_ret
  exact ⟨rfl, rfl⟩

end Go.Proofs.YtkcgbdoplhgbmaaDoor

namespace Go.Proofs.YtkcgbdoplhgbmaaDoor
open Go.RowKit Go.Extern.Stop Go.Stop Go.Extern

/-- Where ErrTooBig, ErrTree, ErrDeep lie. -/
structure Err3 (w : World) (A : Nat → Addr) : Prop where
  v9 : w.cell? ⟨9, 0, none⟩ = some (errV (A 9))
  v12 : w.cell? ⟨12, 0, none⟩ = some (errV (A 12))
  v13 : w.cell? ⟨13, 0, none⟩ = some (errV (A 13))
theorem Err3.ext {w w' : World} {A : Nat → Addr} (h : Err3 w A) (hx : Ext w w') : Err3 w' A := ⟨hx.cell h.v9, hx.cell h.v12, hx.cell h.v13⟩
theorem ErrsAt.three {w : World} {A : Nat → Addr} (h : ErrsAt w A) : Err3 w A := by
  have v9 := h.var 9 (by omega)
  have v12 := h.var 12 (by omega)
  have v13 := h.var 13 (by omega)
  simp only [gb, gbs, List.getD_cons_zero, List.getD_cons_succ] at v9 v12 v13
  exact ⟨v9, v12, v13⟩
def err3List : List (String × Nat × List UInt8) := [9, 12, 13].map fun i => (errNames.getD i "", gb i, errTexts.getD i [])
def err3Laid : List (String × DataW Unit) := err3List.map fun x => (x.1, errD x.2.2)
theorem errs3_at {W : World} (h : laidMet Tryd.prog err3Laid W) : ∃ A, Err3 W A := by
  obtain ⟨ps, hv, hnd, hrows⟩ := h
  obtain ⟨al, hl, hi, _, hn⟩ := laid_many err3List ps (by
    have hall : err3List.all (fun x => decide (Tryd.prog.globalNamed x.1 = some x.2.1 ∧ (Tryd.prog.globals[x.2.1]?).map (·.type) = some 32)) = true := by kernel_rfl
    intro x hx
    exact of_decide_eq_true (List.all_eq_true.1 hall x hx)) hv hnd hrows
  have hl3 : al.length = 3 := by rw [hl]; rfl
  obtain ⟨a0, a1, a2, rfl⟩ : ∃ a0 a1 a2, al = [a0, a1, a2] := by
    match al, hl3 with
    | [a0, a1, a2], _ => exact ⟨a0, a1, a2, rfl⟩
  refine ⟨fun i => if i = 9 then a0 else if i = 12 then a1 else a2, (hi 0 _ _ rfl rfl).1, (hi 1 _ _ rfl rfl).1, (hi 2 _ _ rfl rfl).1⟩

end Go.Proofs.YtkcgbdoplhgbmaaDoor
