/- A slice of links that came in, opened; trawlref03.Last. No condition. -/
import Derived.Test.YtkcgbdoplhgbmaaDoorChn
import Derived.WalkKit
import Derived.OpenShut
import Derived.Deep.SlicePairs
namespace Go.Proofs.YtkcgbdoplhgbmaaDoor
open Go.RowKit Go.ChangeShapes Go.WideShapes Go.Deep

/-- The slice reads as these links. -/
def RdK (w : World) (v : Value) (ls : List (Bool × Int)) : Prop :=
  ∃ a c, v = .slice a ls.length c ∧ ∀ j, j < ls.length → ∃ b o, a = some ⟨b, o, none⟩ ∧ w.cell? ⟨b, o + j * 2, none⟩ = some (.bool (ls.getD j (false, 0)).1) ∧ w.cell? ⟨b, o + j * 2 + 1, none⟩ = some (.int .i64 (ls.getD j (false, 0)).2)
theorem RdK.ext {w w' : World} (hx : Ext w w') {v : Value} {ls : List (Bool × Int)} (h : RdK w v ls) : RdK w' v ls := by
  obtain ⟨a, c, rfl, h⟩ := h
  exact ⟨a, c, rfl, fun j hj => by obtain ⟨b, o, e, h1, h2⟩ := h j hj; exact ⟨b, o, e, hx.cell h1, hx.cell h2⟩⟩
def okK (ls : List (Bool × Int)) : Prop := ∀ x ∈ ls, -9223372036854775808 ≤ x.2 ∧ x.2 ≤ 9223372036854775807

section
variable {H : Type} {enc : TypeId × Value → H} {w : World} {base : Nat} {spare : Nat → Bool} {held : Bool}
theorem lnkStruct : ∃ f0 f1, Tryd.prog.underlying 66 = some (.struct #[f0, f1]) ∧ f0.offset = 0 ∧ f1.offset = 1 ∧ f0.type = 4 ∧ f1.type = 3 := ⟨_, _, Tryd.underlying66, rfl, rfl, rfl, rfl⟩
theorem cells_lnk : Tryd.prog.cellsOf 66 = 2 := by kernel_rfl
theorem cells_lb : Tryd.prog.cellsOf 4 = 1 := by kernel_rfl
theorem cells_li : Tryd.prog.cellsOf 3 = 1 := by kernel_rfl
theorem lnk_spot {a : Addr} {v : Value} (h : w.cell? (a.add (0 * 2)) = some v) : ∃ b o, a = ⟨b, o, none⟩ := by
  have hs : a.spot = none := by simpa [Addr.add] using World.cell?_spot h
  obtain ⟨b, o, s⟩ := a
  simp only at hs
  subst hs
  exact ⟨b, o, rfl⟩
set_option maxRecDepth 100000 in
theorem open_links {r : Reach} {b0 : Nat} {v : Value} {d : DataW H} {qs : List MemPlace} (hval : Value.okWide Tryd.prog w r b0 53 v) (h : DataW.Trod enc Tryd.prog w base spare held 53 v d qs) :
    ∃ ls, RdK w v ls ∧ okK ls := by
  obtain ⟨a0, l0, c0, rfl⟩ := okWide_slice Tryd.underlying53 hval
  obtain ⟨fuel, hf⟩ := h
  obtain ⟨f0, f1, hu, o0, o1, t0, t1⟩ := lnkStruct
  rcases open_slice_pairs (fuel := fuel) Tryd.underlying53 hu cells_lnk o0 o1 (by rw [t0]; exact cells_lb) (by rw [t1]; exact cells_li) hf with ⟨h0, _⟩ | ⟨a, len, cap, m, n, V0, V1, D0, D1, P0, P1, h0, hb, hl, hm, hmm, _, hx⟩
  · have h0 : Value.slice a0 l0 c0 = .slice none 0 0 := by injection h0
    rw [h0]
    exact ⟨[], ⟨none, 0, rfl, fun j hj => absurd hj (Nat.not_lt_zero j)⟩, fun x hx => by cases hx⟩
  · have h0 : Value.slice a0 l0 c0 = .slice (some a) len cap := by injection h0
    rw [h0]
    have hlm : len ≤ m := by rw [hmm]; split <;> omega
    obtain ⟨F, hF⟩ := choose_lt (α := Bool × Int) (n := len) (p := fun j x => w.cell? (a.add (j * 2)) = some (.bool x.1) ∧ w.cell? (a.add (j * 2 + 1)) = some (.int .i64 x.2) ∧ -9223372036854775808 ≤ x.2 ∧ x.2 ≤ 9223372036854775807) (fun j hj => by
      obtain ⟨h1, h2, h3, h4⟩ := hx j (by omega)
      rw [t0] at h3
      rw [t1] at h4
      obtain ⟨b, e1, _⟩ := DataW.trod_bool Tryd.underlying4 h3
      obtain ⟨i, e2, _, hw⟩ := DataW.trod_int Tryd.underlying3 h4
      simp only [List.cons.injEq, and_true] at e1 e2
      rw [e1] at h1
      rw [e2] at h2
      have hw2 : -9223372036854775808 ≤ i ∧ i ≤ 9223372036854775807 := by simpa [Lit.wf, IntKind.min, IntKind.max, IntKind.signed, IntKind.bits] using hw
      exact ⟨(b, i), h1, h2, hw2⟩)
    have hlen : ((List.range len).map F).length = len := by simp
    have hg : ∀ j, j < len → ((List.range len).map F).getD j (false, 0) = F j := fun j hj => by
      rw [List.getD_eq_getElem?_getD, List.getElem?_map, List.getElem?_range hj]; rfl
    refine ⟨(List.range len).map F, ⟨some a, cap, by rw [hlen], fun j hj => ?_⟩, fun x hx => ?_⟩
    · rw [hlen] at hj
      obtain ⟨b, o, rfl⟩ := lnk_spot (hF 0 (by omega)).1
      refine ⟨b, o, rfl, ?_, ?_⟩
      · rw [hg j hj, ← add_plain]; exact (hF j hj).1
      · rw [hg j hj, Nat.add_assoc, ← add_plain]; exact (hF j hj).2.1
    · obtain ⟨j, hj, rfl⟩ := List.mem_map.1 hx
      exact (hF j (List.mem_range.1 hj)).2.2
end

theorem firstL_take (b : Bool) (ls : List (Bool × Int)) (k : Nat) (hk : k < ls.length) : firstL b (ls.take (k + 1)).reverse = if (ls.getD k (false, 0)).1 = b then some (ls.getD k (false, 0)).2 else firstL b (ls.take k).reverse := by
  have e : ls.take (k + 1) = ls.take k ++ [ls.getD k (false, 0)] := by
    rw [List.take_add_one, List.getD_eq_getElem?_getD, List.getElem?_eq_getElem hk]; rfl
  rw [e, List.reverse_append]
  simp only [List.reverse_cons, List.reverse_nil, List.nil_append, List.cons_append]
  obtain ⟨i, n⟩ := ls.getD k (false, 0)
  rfl

set_option maxRecDepth 100000 in
set_option maxHeartbeats 2000000 in
theorem last_any (b : Bool) (ls : List (Bool × Int)) (sv : Value) (w : World) (hr : RdK w sv ls) (hb : ls.length < 4611686018427387904) :
    Calls Tryd.prog 44 #[sv, .bool b] w fun e w' => e = .returned (.tuple #[.int .i64 ((firstL b ls.reverse).getD 0), .bool (firstL b ls.reverse).isSome]) ∧ w = w' := by
  obtain ⟨a, c, rfl, hc⟩ := hr
  have HC := Lib.hid hc
  have h0 : IntKind.i64.wrap ((ls.length : Int) - 1) = (ls.length : Int) - 1 := by rw [IntKind.wrap_i64]; omega
  clear hc
  go_enter Tryd.func44, Tryd.ntmps44
  go_wp2
  go_loop [6] (fun i => ∃ k : Nat, k ≤ ls.length ∧ i = .int .i64 ((k : Int) - 1) ∧ Hid (firstL b ls.reverse = firstL b (ls.take k).reverse)) (fun i => (intOf i + 1).toNat)
  case atStart => exact ⟨ls.length, Nat.le_refl _, by go_num, Lib.hid (by rw [List.take_length])⟩
  case round =>
    obtain ⟨k, hk, rfl, HF⟩ := hrel
    by_cases hk0 : k = 0
    · subst hk0
      clear HC
      go_wp2
      go_ret2
      exact ⟨by rw [show firstL b ls.reverse = none from HF.out]; rfl, rfl⟩
    · obtain ⟨m, rfl⟩ : ∃ m, k = m + 1 := ⟨k - 1, by omega⟩
      obtain ⟨g, o, rfl, c1, c2⟩ := HC.out m (by omega)
      have hT := HF.out.trans (firstL_take b ls m (by omega))
      have em : (((m + 1 : Nat) : Int) - 1) = (m : Int) := by omega
      rw [em]
      generalize ls.getD m (false, 0) = x at *
      obtain ⟨i, n⟩ := x
      simp only at c1 c2 hT
      by_cases hi : i = b
      · subst hi
        rw [if_pos rfl] at hT
        have HT := Lib.hid hT
        clear HF hT
        go_wp2
        go_ret2
        exact ⟨by rw [HT.out]; rfl, rfl⟩
      · rw [if_neg hi] at hT
        have HT := Lib.hid hT
        have hd : (i == b) = false := by simp [hi]
        clear HF hT hi
        go_wp2
        go_round
        case rel => exact ⟨m, by omega, by go_num, HT⟩
        case measure => simp [intOf]

end Go.Proofs.YtkcgbdoplhgbmaaDoor
