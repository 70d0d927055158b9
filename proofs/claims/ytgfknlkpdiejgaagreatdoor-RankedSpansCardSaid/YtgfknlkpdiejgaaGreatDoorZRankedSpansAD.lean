/- Trees in memory whose lists have no more elements than room; an argument of type api.Node opened so. No condition. tree.rounds as a contract. Condition: a repeat in form, few nodes below. tree.size as a contract. Condition: the tree lies in memory, its lists are short, it is in form. tree.size as a contract. Condition: the tree lies in memory, its lists are short, it is in form. -/
import Derived.Test.YtgfknlkpdiejgaaGreatDoorZRankedSpansAA
import Derived.Test.YtgfknlkpdiejgaaGreatDoorZRankedSpansAC
import Derived.Test.YtgfknlkpdiejgaaGreatDoorZRankedSpansAB
namespace Go.Proofs.YtgfknlkpdiejgaaGreatDoor
open Go Go.RowKit Go.ChangeShapes Go.WideShapes Go.ChangeAt Go.Deep

mutual
def NdCap (W : World) : Nd → Value → Prop
  | .mk _ subs, sv => ∃ A c, sv = .slice A subs.length c ∧ subs.length ≤ c ∧ NdsCap W subs A 0
def NdsCap (W : World) : List Nd → Option Addr → Nat → Prop
  | [], _, _ => True
  | n :: r, A, k => (∃ g o sv, A = some ⟨g, o, none⟩ ∧ (∀ i, i < 10 → W.cell? ⟨g, o + k * 10 + i, none⟩ = (nodeC n.h sv)[i]?) ∧ NdCap W n sv) ∧ NdsCap W r A (k + 1)
end
mutual
theorem NdCap.ok {W : World} : ∀ {n : Nd} {sv : Value}, NdCap W n sv → NdOk W n sv
  | .mk _ _, _, ⟨A, c, h1, _, h2⟩ => ⟨A, c, h1, NdsCap.ok h2⟩
theorem NdsCap.ok {W : World} : ∀ {l : List Nd} {A : Option Addr} {k : Nat}, NdsCap W l A k → NdsOk W l A k
  | [], _, _, _ => trivial
  | _ :: _, _, _, ⟨⟨g, o, sv, h1, h2, h3⟩, h4⟩ => ⟨⟨g, o, sv, h1, h2, NdCap.ok h3⟩, NdsCap.ok h4⟩
end
mutual
theorem NdCap.ext {W W' : World} (hx : Ext W W') : ∀ {n : Nd} {sv : Value}, NdCap W n sv → NdCap W' n sv
  | .mk _ _, _, ⟨A, c, h1, h0, h2⟩ => ⟨A, c, h1, h0, NdsCap.ext hx h2⟩
theorem NdsCap.ext {W W' : World} (hx : Ext W W') : ∀ {l : List Nd} {A : Option Addr} {k : Nat}, NdsCap W l A k → NdsCap W' l A k
  | [], _, _, _ => trivial
  | n :: _, _, _, ⟨⟨g, o, sv, h1, h2, h3⟩, h4⟩ => ⟨⟨g, o, sv, h1, fun i hi => (by
      have e := h2 i hi
      have hs : (nodeC n.h sv)[i]? = some (nodeC n.h sv)[i] := List.getElem?_eq_getElem (by simpa [nodeC] using hi)
      rw [hs] at e ⊢
      exact hx.cell e), NdCap.ext hx h3⟩, NdsCap.ext hx h4⟩
end
theorem NdsCap.get {W : World} : ∀ {l : List Nd} {A : Option Addr} {k : Nat}, NdsCap W l A k → ∀ j (hj : j < l.length), ∃ g o sv, A = some ⟨g, o, none⟩ ∧ (∀ i, i < 10 → W.cell? ⟨g, o + (k + j) * 10 + i, none⟩ = (nodeC (l[j]).h sv)[i]?) ∧ NdCap W l[j] sv
  | [], _, _, _, j, hj => absurd hj (Nat.not_lt_zero _)
  | _ :: _, _, _, ⟨h1, _⟩, 0, _ => h1
  | _ :: r, A, k, ⟨_, h2⟩, j + 1, hj => by
    obtain ⟨g, o, sv, h3, h4, h5⟩ := NdsCap.get h2 j (by simpa using hj)
    refine ⟨g, o, sv, h3, fun i hi => ?_, h5⟩
    rw [show k + (j + 1) = k + 1 + j by omega]
    exact h4 i hi
theorem NdsCap.of {W : World} {A : Option Addr} : ∀ {l : List Nd} {k : Nat}, (∀ j (hj : j < l.length), ∃ g o sv, A = some ⟨g, o, none⟩ ∧ (∀ i, i < 10 → W.cell? ⟨g, o + (k + j) * 10 + i, none⟩ = (nodeC (l[j]).h sv)[i]?) ∧ NdCap W l[j] sv) → NdsCap W l A k
  | [], _, _ => trivial
  | n :: r, k, h => ⟨h 0 (by simp), NdsCap.of (k := k + 1) fun j hj => by
    obtain ⟨g, o, sv, h3, h4, h5⟩ := h (j + 1) (by simpa using hj)
    refine ⟨g, o, sv, h3, fun i hi => ?_, h5⟩
    rw [show k + 1 + j = k + (j + 1) by omega]
    exact h4 i hi⟩
theorem NdCap.room {W : World} {h : Hd} {subs : List Nd} {A : Option Addr} {n c : Nat} (hn : NdCap W (.mk h subs) (.slice A n c)) : n = subs.length ∧ subs.length ≤ c := by
  obtain ⟨A', c', e, h0, _⟩ := hn
  injection e with e1 e2 e3
  subst e3
  exact ⟨e2, h0⟩
theorem NdCap.get {W : World} {h : Hd} {subs : List Nd} {A : Option Addr} {n c : Nat} (hn : NdCap W (.mk h subs) (.slice A n c)) (k : Nat) (hk : k < subs.length) :
    ∃ g o sv, A = some ⟨g, o, none⟩ ∧ NdAt W g (o + k * 10) (subs[k]).h sv ∧ NdCap W subs[k] sv := by
  unfold NdCap at hn
  obtain ⟨A', c', e, _, hs⟩ := hn
  injection e with e1 e2 e3
  subst e1
  obtain ⟨g, o, sv, h1, h2, h3⟩ := hs.get k hk
  exact ⟨g, o, sv, h1, fun i hi => by have := h2 i hi; rwa [Nat.zero_add] at this, h3⟩
/-- The list of one of them, cut out. -/
theorem NdCap.cut {W : World} {h h' : Hd} {subs : List Nd} {g o n c : Nat} (hn : NdCap W (.mk h subs) (.slice (some ⟨g, o, none⟩) n c)) (k : Nat) (hk : k < subs.length) (c' : Nat) (hc : 1 ≤ c') : NdCap W (.mk h' [subs[k]]) (.slice (some ⟨g, o + k * 10, none⟩) 1 c') := by
  obtain ⟨g1, o1, sv, e, h1, h2⟩ := hn.get k hk
  simp only [Option.some.injEq, Addr.mk.injEq, and_true] at e
  obtain ⟨rfl, rfl⟩ := e
  unfold NdCap
  refine ⟨_, c', rfl, hc, ⟨g, o + k * 10, sv, rfl, fun i hi => ?_, h2⟩, trivial⟩
  have := h1 i hi
  rwa [Nat.zero_mul, Nat.add_zero]
section
variable {H : Type} {enc : TypeId × Value → H} {w : World} {base : Nat} {spare : Nat → Bool} {held : Bool}
set_option maxRecDepth 100000 in
theorem open_cap_cs : ∀ (F : Nat) (cs : List Value) (x : DataW H × List MemPlace), DataW.trod enc Tryz.prog w base spare held F 27 cs = some x → ∃ (n : Nd) (sv : Value), cs = nodeC n.h sv ∧ NdCap w n sv := fun F => by
  induction F using Nat.strongRecOn with
  | ind F ih =>
    intro cs x h
    obtain ⟨xs, m, rfl, _, hl, hxs, hf⟩ := DataW.trod_struct Tryz.underlying27 h
    rw [cells_node] at hl
    obtain ⟨c0, c1, c2, c3, c4, c5, c6, c7, c8, c9, rfl⟩ : ∃ c0 c1 c2 c3 c4 c5 c6 c7 c8 c9, cs = [c0, c1, c2, c3, c4, c5, c6, c7, c8, c9] := by
      match cs, hl with
      | [c0, c1, c2, c3, c4, c5, c6, c7, c8, c9], _ => exact ⟨c0, c1, c2, c3, c4, c5, c6, c7, c8, c9, rfl⟩
    have hs : ∀ i, i < 7 → ∃ y, xs[i]? = some y := fun i hi => ⟨_, List.getElem?_eq_getElem (by rw [hxs]; exact hi)⟩
    have f0 : DataW.trod enc Tryz.prog w base spare held m 3 (List.take (Tryz.prog.cellsOf 3) (List.drop 0 [c0, c1, c2, c3, c4, c5, c6, c7, c8, c9])) = xs[0]? := hf 0 _ rfl
    have f1 : DataW.trod enc Tryz.prog w base spare held m 24 (List.take (Tryz.prog.cellsOf 24) (List.drop 1 [c0, c1, c2, c3, c4, c5, c6, c7, c8, c9])) = xs[1]? := hf 1 _ rfl
    have f2 : DataW.trod enc Tryz.prog w base spare held m 25 (List.take (Tryz.prog.cellsOf 25) (List.drop 5 [c0, c1, c2, c3, c4, c5, c6, c7, c8, c9])) = xs[2]? := hf 2 _ rfl
    have f3 : DataW.trod enc Tryz.prog w base spare held m 3 (List.take (Tryz.prog.cellsOf 3) (List.drop 6 [c0, c1, c2, c3, c4, c5, c6, c7, c8, c9])) = xs[3]? := hf 3 _ rfl
    have f4 : DataW.trod enc Tryz.prog w base spare held m 3 (List.take (Tryz.prog.cellsOf 3) (List.drop 7 [c0, c1, c2, c3, c4, c5, c6, c7, c8, c9])) = xs[4]? := hf 4 _ rfl
    have f5 : DataW.trod enc Tryz.prog w base spare held m 3 (List.take (Tryz.prog.cellsOf 3) (List.drop 8 [c0, c1, c2, c3, c4, c5, c6, c7, c8, c9])) = xs[5]? := hf 5 _ rfl
    have f6 : DataW.trod enc Tryz.prog w base spare held m 4 (List.take (Tryz.prog.cellsOf 4) (List.drop 9 [c0, c1, c2, c3, c4, c5, c6, c7, c8, c9])) = xs[6]? := hf 6 _ rfl
    obtain ⟨y0, hy0⟩ := hs 0 (by omega)
    obtain ⟨y1, hy1⟩ := hs 1 (by omega)
    obtain ⟨y2, hy2⟩ := hs 2 (by omega)
    obtain ⟨y3, hy3⟩ := hs 3 (by omega)
    obtain ⟨y4, hy4⟩ := hs 4 (by omega)
    obtain ⟨y5, hy5⟩ := hs 5 (by omega)
    obtain ⟨y6, hy6⟩ := hs 6 (by omega)
    rw [hy0] at f0
    rw [hy1] at f1
    rw [hy2] at f2
    rw [hy3] at f3
    rw [hy4] at f4
    rw [hy5] at f5
    rw [hy6] at f6
    simp only [cells_inti, cells_seti, cells_nodes, cells_booli, List.drop_succ_cons, List.drop_zero, List.take_succ_cons, List.take_zero] at f0 f1 f2 f3 f4 f5 f6
    obtain ⟨n0, e0, _, _⟩ := DataW.trod_int Tryz.underlying3 f0
    obtain ⟨p, rfl, rfl, rfl, rfl⟩ := open_words f1
    obtain ⟨n3, e3, _, _⟩ := DataW.trod_int Tryz.underlying3 f3
    obtain ⟨n4, e4, _, _⟩ := DataW.trod_int Tryz.underlying3 f4
    obtain ⟨n5, e5, _, _⟩ := DataW.trod_int Tryz.underlying3 f5
    obtain ⟨b6, e6, _⟩ := DataW.trod_bool Tryz.underlying4 f6
    simp only [List.cons.injEq, and_true] at e0 e3 e4 e5 e6
    subst e0 e3 e4 e5 e6
    rcases DataW.trod_slice Tryz.underlying25 f2 with ⟨e, _⟩ | ⟨a, len, cap, elems, rest, k, rfl, e, _, _, hlc, _, hel, hget, _, _⟩
    · simp only [List.cons.injEq, and_true] at e
      subst e
      exact ⟨.mk ⟨n0, p, n3, n4, n5, b6⟩ [], _, rfl, none, 0, rfl, Nat.le_refl _, trivial⟩
    · simp only [List.cons.injEq, and_true] at e
      subst e
      rw [cells_node] at hget
      obtain ⟨Fn, hFn⟩ := choose_lt (α := Nd) (n := len) (p := fun j n => ∃ sv, (∀ i, i < 10 → w.cell? (a.add (j * 10 + i)) = (nodeC n.h sv)[i]?) ∧ NdCap w n sv) (fun j hj => by
        have h1 := hget j hj
        rw [List.getElem?_eq_getElem (by omega), Option.bind_eq_some_iff] at h1
        obtain ⟨cs', h2, h3⟩ := h1
        obtain ⟨_, _, h5⟩ := World.cells?_some h2
        obtain ⟨n, sv, rfl, hok⟩ := ih k (by omega) cs' _ h3
        refine ⟨n, sv, fun i hi => ?_, hok⟩
        rw [← h5 i hi]
        congr 1
        unfold Addr.add
        split <;> split <;> split <;> simp_all <;> omega)
      refine ⟨.mk ⟨n0, p, n3, n4, n5, b6⟩ ((List.range len).map Fn), _, rfl, some a, cap, by simp, by simpa using hlc, NdsCap.of fun j hj => ?_⟩
      simp only [List.length_map, List.length_range] at hj
      obtain ⟨sv, h1, h2⟩ := hFn j hj
      have hsp : a.spot = none := by
        obtain ⟨sv0, h3, _⟩ := hFn 0 (by omega)
        simpa [Addr.add] using World.cell?_spot (show w.cell? (a.add (0 * 10 + 0)) = some _ from h3 0 (by omega))
      refine ⟨a.block, a.off, sv, ?_, fun i hi => ?_, by simpa using h2⟩
      · obtain ⟨b, o, s⟩ := a; simp only at hsp; subst hsp; rfl
      · have := h1 i hi
        have ea : a.add (j * 10 + i) = ⟨a.block, a.off + (0 + j) * 10 + i, none⟩ := by
          obtain ⟨b, o, s⟩ := a
          simp only at hsp
          subst hsp
          unfold Addr.add
          split <;> simp_all <;> omega
        rw [ea] at this
        simpa using this
set_option maxRecDepth 100000 in
theorem open_cap {r : Reach} {b0 : Nat} {v : Value} {d : DataW H} {qs : List MemPlace} (hval : Value.okWide Tryz.prog w r b0 27 v) (h : DataW.Trod enc Tryz.prog w base spare held 27 v d qs) : ∃ (n : Nd) (sv : Value), v = nodeV n.h sv ∧ NdCap w n sv := by
  obtain ⟨cs, rfl, hsz⟩ := okWide_struct Tryz.underlying27 hval
  obtain ⟨fuel, hf⟩ := h
  obtain ⟨n, sv, h1, h2⟩ := open_cap_cs fuel _ _ hf
  refine ⟨n, sv, ?_, h2⟩
  obtain ⟨l⟩ := cs
  have h1 : l = nodeC n.h sv := by simpa [Value.cells] using h1
  subst h1
  rfl
end
end Go.Proofs.YtgfknlkpdiejgaaGreatDoor

namespace Go.Proofs.YtgfknlkpdiejgaaGreatDoor
open Go.RowKit

def roundsZ (h : Hd) (n : Int) : Int :=
  if h.min = 1 ∧ h.max = 1 then n
  else if h.min = 0 ∧ (h.max = 1 ∨ h.max = -1) then 1 + n
  else if h.max = -1 then 1 + h.min * n + 1 + n
  else 1 + h.min * n + (h.max - h.min) * (1 + n)

set_option maxRecDepth 100000 in
set_option maxHeartbeats 8000000 in
theorem rounds_any (h : Hd) (sv : Value) (n : Int) (w : World) (h0 : 0 ≤ h.min) (h1 : h.min ≤ 255) (h2 : h.max = -1 ∨ (h.min ≤ h.max ∧ h.max ≤ 255)) (hn0 : 0 ≤ n) (hn1 : n ≤ 2001) (hsv : ∃ A l c, sv = .slice A l c) :
    Calls Tryz.prog 85 #[nodeV h sv, .int .i64 n] w fun r w' => r = .returned (.int .i64 (roundsZ h n)) ∧ Ext w w' := by
  obtain ⟨kind, set, num, mn, mx, bare⟩ := h
  obtain ⟨A, len, c, rfl⟩ := hsv
  simp only at h0 h1 h2
  have m1 : 0 ≤ mn * n := Int.mul_nonneg h0 hn0
  have m2 : mn * n ≤ 255 * 2001 := Int.mul_le_mul h1 hn1 hn0 (by omega)
  unfold nodeV
  simp only
  go_enter Tryz.func85, Tryz.ntmps85
  go_upto_region 1 with fail
  have nb := Blk.new w 27 #[.int .i64 kind, .int .u64 (wd set 0 : Int), .int .u64 (wd set 1 : Int), .int .u64 (wd set 2 : Int), .int .u64 (wd set 3 : Int), .slice A len c, .int .i64 num, .int .i64 mn, .int .i64 mx, .bool bare]
  have hx := (Ext.refl w).alloc (.cells #[.int .i64 kind, .int .u64 (wd set 0 : Int), .int .u64 (wd set 1 : Int), .int .u64 (wd set 2 : Int), .int .u64 (wd set 3 : Int), .slice A len c, .int .i64 num, .int .i64 mn, .int .i64 mx, .bool bare] 27)
  generalize w.alloc (.cells #[.int .i64 kind, .int .u64 (wd set 0 : Int), .int .u64 (wd set 1 : Int), .int .u64 (wd set 2 : Int), .int .u64 (wd set 3 : Int), .slice A len c, .int .i64 num, .int .i64 mn, .int .i64 mx, .bool bare] 27) = w1 at *
  generalize w.heap.size = b at *
  have c7 := nb.cell 7
  have c8 := nb.cell 8
  simp only [List.getElem?_toArray, List.getElem?_cons_succ, List.getElem?_cons_zero] at c7 c8
  clear nb
  by_cases a1 : mn = 1 ∧ mx = 1
  · obtain ⟨rfl, rfl⟩ := a1
    go_wp2
    go_ret
    exact ⟨rfl, hx⟩
  by_cases a2 : mn = 0 ∧ (mx = 1 ∨ mx = -1)
  · obtain ⟨rfl, rfl | rfl⟩ := a2
    all_goals
      have q1 : IntKind.i64.wrap (1 + n) = 1 + n := by rw [IntKind.wrap_i64]; omega
      go_wp2
      go_ret
      exact ⟨by simp [roundsZ], hx⟩
  by_cases a3 : mx = -1
  · subst a3
    have q1 : IntKind.i64.wrap (mn * n) = mn * n := by rw [IntKind.wrap_i64]; omega
    have q2 : IntKind.i64.wrap (1 + mn * n) = 1 + mn * n := by rw [IntKind.wrap_i64]; omega
    have q3 : IntKind.i64.wrap (1 + mn * n + 1) = 1 + mn * n + 1 := by rw [IntKind.wrap_i64]; omega
    have q4 : IntKind.i64.wrap (1 + mn * n + 1 + n) = 1 + mn * n + 1 + n := by rw [IntKind.wrap_i64]; omega
    have HR := Lib.hid (show roundsZ ⟨kind, set, num, mn, -1, bare⟩ n = 1 + mn * n + 1 + n by
      unfold roundsZ
      rw [if_neg (by simp), if_neg (by simp only; omega), if_pos rfl])
    have d1 : mn ≠ 0 := by omega
    go_wp2
    all_goals
      go_ret
      exact ⟨by first | (rw [HR.out]; rfl) | (simp [roundsZ, *]; done) | (simp [roundsZ, *]; omega), hx⟩
  · have hmx : mn ≤ mx ∧ mx ≤ 255 := h2.resolve_left a3
    have m3 : 0 ≤ (mx - mn) * (1 + n) := Int.mul_nonneg (by omega) (by omega)
    have m4 : (mx - mn) * (1 + n) ≤ 255 * 2002 := Int.mul_le_mul (by omega) (by omega) (by omega) (by omega)
    have q1 : IntKind.i64.wrap (mn * n) = mn * n := by rw [IntKind.wrap_i64]; omega
    have q2 : IntKind.i64.wrap (1 + mn * n) = 1 + mn * n := by rw [IntKind.wrap_i64]; omega
    have q3 : IntKind.i64.wrap (mx - mn) = mx - mn := by rw [IntKind.wrap_i64]; omega
    have q4 : IntKind.i64.wrap (1 + n) = 1 + n := by rw [IntKind.wrap_i64]; omega
    have q5 : IntKind.i64.wrap ((mx - mn) * (1 + n)) = (mx - mn) * (1 + n) := by rw [IntKind.wrap_i64]; omega
    have q6 : IntKind.i64.wrap (1 + mn * n + (mx - mn) * (1 + n)) = 1 + mn * n + (mx - mn) * (1 + n) := by rw [IntKind.wrap_i64]; omega
    have HR := Lib.hid (show roundsZ ⟨kind, set, num, mn, mx, bare⟩ n = 1 + mn * n + (mx - mn) * (1 + n) by
      unfold roundsZ
      rw [if_neg a1, if_neg a2, if_neg a3])
    have hd : (mn = 1 ∧ mx ≠ 1) ∨ (mn = 0 ∧ mx ≠ 1) ∨ (mn ≠ 0 ∧ mn ≠ 1) := by omega
    rcases hd with ⟨rfl, hd⟩ | ⟨rfl, hd⟩ | ⟨hd1, hd2⟩
    case' inr.inl =>
      rw [Int.sub_zero] at m3 m4
      have w1 : IntKind.i64.wrap (mx * (1 + n)) = mx * (1 + n) := by rw [IntKind.wrap_i64]; omega
      have w2 : IntKind.i64.wrap (1 + mx * (1 + n)) = 1 + mx * (1 + n) := by rw [IntKind.wrap_i64]; omega
      have n1 : (mx == 1) = false := by simpa using hd
      have n2 : (mx == -1) = false := by simpa using a3
      clear q1 q2 q3 q5 q6 a1 a2
    all_goals
      go_wp2
      all_goals
        go_ret
        exact ⟨by rw [HR.out]; first | rfl | (simp; done), hx⟩

end Go.Proofs.YtgfknlkpdiejgaaGreatDoor

namespace Go.Proofs.YtgfknlkpdiejgaaGreatDoor
open Go.RowKit

mutual
def sizeN : Nd → Int
  | .mk h subs => if h.kind = 8 ∧ h.max = 0 then 1 else Min.min (if h.kind = 8 then roundsZ h (sizeA 0 subs) else sizeA 0 subs + 1) 2001
def sizeA : Int → List Nd → Int
  | a, [] => a
  | a, n :: r => sizeA (Min.min (a + sizeN n) 2001) r
end
theorem sizeA_app : ∀ (a : Int) (l r : List Nd), sizeA a (l ++ r) = sizeA (sizeA a l) r
  | _, [], _ => rfl
  | a, n :: l, r => by
    show sizeA a (n :: (l ++ r)) = sizeA (sizeA a (n :: l)) r
    rw [sizeA, sizeA, sizeA_app _ l r]
theorem rounds_nonneg (h : Hd) (n : Int) (h0 : 0 ≤ h.min) (h2 : h.max = -1 ∨ h.min ≤ h.max) (hn : 0 ≤ n) : 0 ≤ roundsZ h n := by
  have m1 : 0 ≤ h.min * n := Int.mul_nonneg h0 hn
  unfold roundsZ
  split
  · exact hn
  · split
    · omega
    · split
      · omega
      · have m3 : 0 ≤ (h.max - h.min) * (1 + n) := Int.mul_nonneg (by omega) (by omega)
        omega
theorem formed_rep {h : Hd} {l : Nat} (hf : formedB h l = true) (hk : h.kind = 8) : 0 ≤ h.min ∧ h.min ≤ 255 ∧ (h.max = -1 ∨ (h.min ≤ h.max ∧ h.max ≤ 255)) := by
  unfold formedB at hf
  rw [if_neg (by omega), if_neg (by omega), if_neg (by omega), if_neg (by omega), if_pos hk] at hf
  simp only [Bool.and_eq_true, Bool.or_eq_true, decide_eq_true_eq] at hf
  obtain ⟨⟨⟨⟨_, h1⟩, h2⟩, _⟩, h3⟩ := hf
  exact ⟨h1, h2, h3⟩
mutual
theorem sizeN_range : ∀ (n : Nd), formB n = true → 0 ≤ sizeN n ∧ sizeN n ≤ 2001
  | .mk h subs, hf => by
    rw [formB, Bool.and_eq_true] at hf
    have h1 := sizeA_range subs 0 hf.2 (by omega) (by omega)
    unfold sizeN
    split
    · omega
    · split
      · rename_i hk
        obtain ⟨r1, _, r3⟩ := formed_rep hf.1 hk
        have := rounds_nonneg h (sizeA 0 subs) r1 (r3.imp id (·.1)) h1.1
        omega
      · omega
theorem sizeA_range : ∀ (l : List Nd) (a : Int), formL l = true → 0 ≤ a → a ≤ 2001 → 0 ≤ sizeA a l ∧ sizeA a l ≤ 2001
  | [], a, _, h0, h1 => by unfold sizeA; omega
  | n :: r, a, hf, h0, h1 => by
    rw [formL, Bool.and_eq_true] at hf
    have h2 := sizeN_range n hf.1
    rw [sizeA]
    exact sizeA_range r _ hf.2 (by omega) (by omega)
end

end Go.Proofs.YtgfknlkpdiejgaaGreatDoor

namespace Go.Proofs.YtgfknlkpdiejgaaGreatDoor
open Go.RowKit

theorem min_if (a : Int) : Min.min a 2001 = if 2001 < a then 2001 else a := by rw [Int.min_def]; split <;> split <;> omega
theorem node_cells0 {W : World} {b : Nat} {t : TypeId} {v0 v1 v2 v3 v4 v5 v6 v7 v8 v9 : Value} (h : Blk W b t #[v0, v1, v2, v3, v4, v5, v6, v7, v8, v9]) :
    W.cell? ⟨b, 0, none⟩ = some v0 ∧ W.cell? ⟨b, 1, none⟩ = some v1 ∧ W.cell? ⟨b, 2, none⟩ = some v2 ∧ W.cell? ⟨b, 3, none⟩ = some v3 ∧ W.cell? ⟨b, 4, none⟩ = some v4 ∧ W.cell? ⟨b, 5, none⟩ = some v5 ∧ W.cell? ⟨b, 6, none⟩ = some v6 ∧ W.cell? ⟨b, 7, none⟩ = some v7 ∧ W.cell? ⟨b, 8, none⟩ = some v8 ∧ W.cell? ⟨b, 9, none⟩ = some v9 :=
  ⟨h.cell 0, h.cell 1, h.cell 2, h.cell 3, h.cell 4, h.cell 5, h.cell 6, h.cell 7, h.cell 8, h.cell 9⟩

set_option maxRecDepth 100000 in
set_option maxHeartbeats 4000000 in
theorem size_any : ∀ (n : Nd) (sv : Value) (w : World), NdOk w n sv → smallN n → formB n = true →
    Calls Tryz.prog 70 #[nodeV n.h sv] w fun r w' => r = .returned (.int .i64 (sizeN n)) ∧ Ext w w' := by
  refine Nd.ind fun hd subs ih sv w hn hsm hfm => ?_
  unfold NdOk at hn
  obtain ⟨A, c, rfl, hs⟩ := hn
  obtain ⟨hlen, hsm⟩ := hsm
  rw [formB, Bool.and_eq_true] at hfm
  obtain ⟨hfd, hfl⟩ := hfm
  have IH := Lib.hid (fun n hm sv w hn hf => ih n hm sv w hn (smallL_mem hsm n hm) hf)
  have HS := Lib.hid hs
  have HFL := Lib.hid hfl
  clear ih hs hsm hfl
  show Calls _ _ #[nodeV hd _] _ _
  have hrep := fun hk => formed_rep hfd hk
  have hsz : sizeN (.mk hd subs) = if hd.kind = 8 ∧ hd.max = 0 then 1 else Min.min (if hd.kind = 8 then roundsZ hd (sizeA 0 subs) else sizeA 0 subs + 1) 2001 := by rw [sizeN]
  have HZ := Lib.hid hsz
  have HRO := Lib.hid (fun m W (hk : hd.kind = 8) (h0 : 0 ≤ m) (h1 : m ≤ 2001) => rounds_any hd (.slice A subs.length c) m W (hrep hk).1 (hrep hk).2.1 (hrep hk).2.2 h0 h1 ⟨A, _, c, rfl⟩)
  clear hsz hfd
  generalize hss : sizeN (.mk hd subs) = ss at *
  clear hss
  obtain ⟨kind, set, num, mn, mx, bare⟩ := hd
  unfold nodeV at *
  simp only at *
  go_enter Tryz.func70, Tryz.ntmps70
  go_upto_region 2 with fail
  have nb := Blk.new w 27 #[.int .i64 kind, .int .u64 (wd set 0 : Int), .int .u64 (wd set 1 : Int), .int .u64 (wd set 2 : Int), .int .u64 (wd set 3 : Int), .slice A subs.length c, .int .i64 num, .int .i64 mn, .int .i64 mx, .bool bare]
  have hx1 := (Ext.refl w).alloc (.cells #[.int .i64 kind, .int .u64 (wd set 0 : Int), .int .u64 (wd set 1 : Int), .int .u64 (wd set 2 : Int), .int .u64 (wd set 3 : Int), .slice A subs.length c, .int .i64 num, .int .i64 mn, .int .i64 mx, .bool bare] 27)
  generalize w.alloc (.cells #[.int .i64 kind, .int .u64 (wd set 0 : Int), .int .u64 (wd set 1 : Int), .int .u64 (wd set 2 : Int), .int .u64 (wd set 3 : Int), .slice A subs.length c, .int .i64 num, .int .i64 mn, .int .i64 mx, .bool bare] 27) = w1 at *
  generalize w.heap.size = b at *
  have c0 := nb.cell 0
  have c5 := nb.cell 5
  have c8 := nb.cell 8
  simp only [List.getElem?_toArray, List.getElem?_cons_succ, List.getElem?_cons_zero] at c0 c5 c8
  have NB := Lib.hid nb
  clear nb
  by_cases h80 : kind = 8 ∧ mx = 0
  · obtain ⟨rfl, rfl⟩ := h80
    have HZ2 := Lib.hid (show ss = 1 by rw [HZ.out]; simp)
    clear HZ HRO
    go_wp2
    go_ret
    exact ⟨by rw [HZ2.out]; rfl, hx1⟩
  · have hcd : (kind = 8 ∧ mx ≠ 0) ∨ kind ≠ 8 := by omega
    have hx11 : Ext w1 w1 := Ext.refl w1
    rcases hcd with ⟨rfl, hm⟩ | hk
    all_goals
      go_upto_region 4 with fail
      go_wp2
      go_loopw [3, 17] (fun a i wr => ∃ k : Nat, k ≤ subs.length ∧ i = .int .i64 k ∧ a = .int .i64 (sizeA 0 (subs.take k)) ∧ Ext w wr ∧ Ext w1 wr) (fun _ i _ => subs.length - (intOf i).toNat)
      case atStart => exact ⟨0, Nat.zero_le _, rfl, by rw [List.take_zero, sizeA], hx1, hx11⟩
      case round =>
        obtain ⟨k, hk', rfl, rfl, hx, hx2⟩ := hrel
        have hfk : formL (subs.take k) = true := by
          have h1 := HFL.out
          rw [← List.take_append_drop k subs, formL_app, Bool.and_eq_true] at h1
          exact h1.1
        obtain ⟨r1, r2⟩ := sizeA_range (subs.take k) 0 hfk (by omega) (by omega)
        clear hfk
        by_cases hlt : k < subs.length
        · obtain ⟨g, o, sv, rfl, hcell, hok⟩ := HS.out.get k hlt
          obtain ⟨A2, c2, rfl⟩ := hok.shape
          have hfn : formB subs[k] = true := by
            have h1 := HFL.out
            rw [← List.take_append_drop (k + 1) subs, formL_app, take_snoc subs k hlt, formL_app, formL_one, Bool.and_eq_true, Bool.and_eq_true] at h1
            exact h1.1.2
          obtain ⟨r3, r4⟩ := sizeN_range _ hfn
          have hstep : sizeA 0 (subs.take (k + 1)) = Min.min (sizeA 0 (subs.take k) + sizeN subs[k]) 2001 := by rw [take_snoc subs k hlt, sizeA_app, sizeA, sizeA]
          have IHk := Lib.hid (fun w' (hw' : Ext w w') => IH.out subs[k] (List.getElem_mem hlt) _ w' (NdOk.ext hw' _ _ hok) hfn)
          obtain ⟨e0, e1, e2, e3, e4, e5, e6, e7, e8, e9⟩ := node_cells hx hcell
          have c5' := hx2.cell c5
          have HST := Lib.hid hstep
          clear hstep hok hcell IH HS HZ HRO NB hfn HFL c5
          generalize subs[k] = nk at *
          obtain ⟨⟨k2, t2, n2, mn2, mx2, b2⟩, sub2⟩ := nk
          simp only [Nd.h] at *
          generalize (Nd.mk ⟨k2, t2, n2, mn2, mx2, b2⟩ sub2).subs.length = len2 at *
          generalize sizeN (.mk ⟨k2, t2, n2, mn2, mx2, b2⟩ sub2) = res at *
          generalize sizeA 0 (subs.take k) = acc at *
          have d1 : (k : Int) < (subs.length : Int) := by omega
          have q1 : IntKind.i64.wrap (acc + res) = acc + res := by rw [IntKind.wrap_i64]; omega
          go_upto_region 7 with fail
          have hx4 := hx.alloc (.cells #[.int .i64 k2, .int .u64 (wd t2 0 : Int), .int .u64 (wd t2 1 : Int), .int .u64 (wd t2 2 : Int), .int .u64 (wd t2 3 : Int), .slice A2 len2 c2, .int .i64 n2, .int .i64 mn2, .int .i64 mx2, .bool b2] 27)
          have hx5 := hx2.alloc (.cells #[.int .i64 k2, .int .u64 (wd t2 0 : Int), .int .u64 (wd t2 1 : Int), .int .u64 (wd t2 2 : Int), .int .u64 (wd t2 3 : Int), .slice A2 len2 c2, .int .i64 n2, .int .i64 mn2, .int .i64 mx2, .bool b2] 27)
          go_wp2_with (go_at_call 70; refine (IHk.out _ hx4).mono ?_; rintro e w' ⟨rfl, hx'⟩)
          go_roundw
          case rel => exact ⟨k + 1, by omega, by go_num, by rw [HST.out, min_if], hx4.trans hx', hx5.trans hx'⟩
          case measure => simp [intOf]; omega
        · have hkl : subs.take k = subs := List.take_of_length_le (by omega)
          rw [hkl] at r1 r2 ⊢
          generalize sizeA 0 subs = tot at *
          have d1 : ¬ (k : Int) < (subs.length : Int) := by omega
          first
            | (have hs8 := Lib.hid (show ss = Min.min (roundsZ ⟨8, set, num, mn, mx, bare⟩ tot) 2001 by rw [HZ.out]; simp [hm])
               obtain ⟨s0, s1, s2, s3, s4, s5, s6, s7, s8, s9⟩ := node_cells0 (NB.out.ext hx2)
               have HR2 := Lib.hid (fun W => HRO.out tot W (by trivial) r1 r2)
               generalize roundsZ ⟨8, set, num, mn, mx, bare⟩ tot = rz at *
               clear HRO HZ IH HS HFL NB
               by_cases hz : 2001 < rz
               all_goals
                 go_wp2_with (go_at_call 85; refine (HR2.out _).mono ?_; rintro e w' ⟨rfl, hx'⟩)
                 go_ret
                 exact ⟨by rw [hs8.out, min_if]; first | (simp [hz]; done) | (simp; omega), hx.trans hx'⟩)
            | (have hs9 := Lib.hid (show ss = Min.min (tot + 1) 2001 by rw [HZ.out]; simp [hk])
               have q1 : IntKind.i64.wrap (tot + 1) = tot + 1 := by rw [IntKind.wrap_i64]; omega
               have c0' := hx2.cell c0
               clear HRO HZ IH HS HFL NB
               by_cases hz : 2001 < tot + 1
               all_goals
                 go_wp2
                 go_ret
                 exact ⟨by rw [hs9.out, min_if]; first | (simp [hz]; done) | (simp; omega), hx⟩)

end Go.Proofs.YtgfknlkpdiejgaaGreatDoor
