/- An argument of the type api.Set, opened and shut. No condition. -/
import Derived.Test.YtfgocamajfipmaaSetA
import Derived.WalkKit
import Derived.OpenShut
import Derived.Laws.IdiomArrays
namespace Go.Proofs.Ytfgocamajfipmaa
open Go.RowKit Go.ChangeShapes Go.WideShapes
set_option linter.unusedVariables false
set_option maxRecDepth 100000

theorem cells_u64 : Try.prog.cellsOf 23 = 1 := by kernel_rfl
theorem cells_set : Try.prog.cellsOf 25 = 4 := by kernel_rfl
theorem u64_nat {n : Int} (h : (Lit.int .u64 n).wf = true) : ∃ k : Nat, n = (k : Int) ∧ k < 18446744073709551616 := by
  obtain ⟨h0, h1⟩ : 0 ≤ n ∧ n ≤ 18446744073709551615 := by simpa [Lit.wf, IntKind.min, IntKind.max, IntKind.signed, IntKind.bits] using h
  obtain ⟨k, rfl⟩ := Int.eq_ofNat_of_zero_le h0
  exact ⟨k, rfl, by omega⟩

set_option maxHeartbeats 1000000 in
/-- A set of an argument is the set of its words' bits; and it reads in every world as it read. -/
theorem open_set {H : Type} {enc : TypeId × Value → H} {w : World} {base : Nat} {spare : Nat → Bool} {held : Bool} {r : Reach} {b0 : Nat} {v : Value} {d : DataW H} {ps : List MemPlace} (hval : Value.okWide Try.prog w r b0 25 v) (hd : DataW.Trod enc Try.prog w base spare held 25 v d ps) :
    ∃ p : Nat → Bool, v = setV p ∧ ps = [] ∧ ∀ (W : World) (b : Nat) (sp : Nat → Bool) (hl : Bool), DataW.Trod enc Try.prog W b sp hl 25 (setV p) d [] := by
  have hu := Try.underlying25
  simp only [Value.okWide, hu] at hval
  obtain ⟨cs, rfl, hsz, _⟩ := hval
  rw [cells_set] at hsz
  obtain ⟨fuel, hf⟩ := hd
  obtain ⟨l⟩ := cs
  simp only [List.size_toArray] at hsz
  obtain ⟨c0, c1, c2, c3, rfl⟩ : ∃ c0 c1 c2 c3, l = [c0, c1, c2, c3] := by
    match l, hsz with
    | [c0, c1, c2, c3], _ => exact ⟨c0, c1, c2, c3, rfl⟩
  obtain ⟨y0, y1, y2, y3, n, he, h0, h1, h2, h3⟩ := trod_array4 hu cells_u64 hf
  obtain ⟨n0, e0, x0, w0⟩ := DataW.trod_int Try.underlying23 h0
  obtain ⟨n1, e1, x1, w1⟩ := DataW.trod_int Try.underlying23 h1
  obtain ⟨n2, e2, x2, w2⟩ := DataW.trod_int Try.underlying23 h2
  obtain ⟨n3, e3, x3, w3⟩ := DataW.trod_int Try.underlying23 h3
  simp only [List.cons.injEq, and_true] at e0 e1 e2 e3
  subst e0 e1 e2 e3 x0 x1 x2 x3
  simp only [List.append_nil, Prod.mk.injEq] at he
  obtain ⟨rfl, rfl⟩ := he
  obtain ⟨k0, rfl, l0⟩ := u64_nat w0
  obtain ⟨k1, rfl, l1⟩ := u64_nat w1
  obtain ⟨k2, rfl, l2⟩ := u64_nat w2
  obtain ⟨k3, rfl, l3⟩ := u64_nat w3
  let a : Nat → Nat := fun i => if i = 0 then k0 else if i = 1 then k1 else if i = 2 then k2 else k3
  have hs : setV (memOf a) = .agg #[.int .u64 k0, .int .u64 k1, .int .u64 k2, .int .u64 k3] := by
    unfold setV u64v
    rw [wd_memOf a 0 (by simpa [a] using l0), wd_memOf a 1 (by simpa [a] using l1), wd_memOf a 2 (by simpa [a] using l2), wd_memOf a 3 (by simpa [a] using l3)]
    rfl
  refine ⟨memOf a, hs.symm, rfl, fun W b sp hl => ⟨2, ?_⟩⟩
  rw [hs]
  have hui := Try.underlying23
  have r4 : List.range 4 = [0, 1, 2, 3] := rfl
  simp [DataW.trod, Value.cells, hu, hui, cells_u64, cells_set, r4, w0, w1, w2, w3]

end Go.Proofs.Ytfgocamajfipmaa
