/- The law 'OptionBack' holds for every input: the call returns true and each argument reads behind it as before. Condition: the package-level variable that the row lists holds what it lists, which the card ties to the program's text. -/
import Derived.Test.YtkcgbdoplhgbmaaDoorRows
import Derived.WalkKit
import Derived.ProofKit
import Derived.OpenShut
import Derived.Test.YtkcgbdoplhgbmaaDoorCards
import Derived.Test.YtkcgbdoplhgbmaaDoorTie
import Derived.LaidMore
import Derived.LaidLaws
import Derived.SevenTiedAt
import Derived.Test.YtkcgbdoplhgbmaaDoorKeep
import Derived.Test.YtkcgbdoplhgbmaaDoorOOp
import Derived.Test.YtkcgbdoplhgbmaaDoorMxl
import Derived.Test.YtkcgbdoplhgbmaaDoorHsh
import Derived.Test.YtkcgbdoplhgbmaaDoorOLaid
import Derived.Test.YtkcgbdoplhgbmaaDoorOBk
namespace Go.Proofs.YtkcgbdoplhgbmaaDoor.optionBack
open Go.ChangeShapes Go.WideShapes Go.ChangeAt Go.RowKit
set_option linter.unusedVariables false

theorem own : ownKnob Tryd.prog.godebug = none := by kernel_rfl
theorem laidOut : laidOutB Tryd.prog = true := by kernel_rfl

set_option maxRecDepth 100000 in
theorem door_met (os : Os) (args : Array Value) : laidMetH Tryd.prog Rows.optionBackRow.laid ((optWorld os Rows.optionBackRow.laid).forCall (fun _ _ => 0) ⟨#[], args, []⟩).memory :=
  wordsW_met os args

set_option maxRecDepth 100000 in
theorem lifted (os : Os) (started : os.Started) (H : Type) (enc : TypeId × Value → H) :
    ReturnsInHanded {} Tryd.checked os 12 .any (fun w args => (Rows.optionBackSpec.pre enc Tryd.prog Tryd.f12 [] false w args ∧ laidMetH Tryd.prog Rows.optionBackRow.laid w) ∧ sizedMet enc Tryd.prog Tryd.f12 (OpenSpec.ofChange Rows.optionBackSpec) false w args)
      (Rows.optionBackSpec.post enc Tryd.prog Tryd.f12 false true false false) := by
  refine returns_and_shaped (C := Tryd.checked) (X := fun w _ => laidMetH Tryd.prog Rows.optionBackRow.laid w) (fun _ _ _ hh h => h.of_heap hh) own started (by kernel_rfl) Tryd.func12
    (ChangeSpec.witness_shaped (enc := enc) (C := Tryd.checked) (os := os) (X := fun w _ => laidMetH Tryd.prog Rows.optionBackRow.laid w) false (optWorld os Rows.optionBackRow.laid) #[.agg #[.int .i64 0, .int .i64 0, .bool false, .bool false, .bool false, .bool false, .bool false, .int .i64 0, .slice none 0 0], .slice none 0 0] 8 (optWorld_os _ _) (wordsW_shaped os _) (by kernel_rfl) (by kernel_rfl) (by kernel_rfl) (door_met os _)) ?_
  intro W base args ds gs before hval0 hW _ hsz hL hsh _
  have hval : ∀ (j : Nat) t v, Tryd.f12.params[j]? = some t → args[j]? = some v → Value.okWide Tryd.prog W .any base t v := hval0
  have hW' := hW
  obtain ⟨p, q, hA0, hV, rfl, hfz, hnd⟩ := hW
  have hA : DataW.TrodAll enc Tryd.prog W 0 (fun _ => true) true Tryd.f12.params.toList args.toList ds p := hA0
  rw [Tryd.params12] at hA hval
  obtain ⟨v0, vs0, d0, ds0, p0, q0, hargs0, rfl, rfl, h0, r0⟩ := trodAll_cons hA
  obtain ⟨v1, vs1, d1, ds1, p1, q1, hargs1, rfl, rfl, h1, r1⟩ := trodAll_cons r0
  obtain ⟨rfl, rfl, rfl⟩ := trodAll_nil r1
  obtain rfl : args = #[v0, v1] := by cases args; simp_all
  obtain ⟨rfl, rfl⟩ := trodVars_none hV
  obtain ⟨o0, pv0, ws0, rfl, hr0, hp0, hd0, hz0, wf0, wd0, wm0⟩ := open_opts (hval 0 46 v0 rfl rfl) h0
  have hs0 := opts_small (j := 0) hsz (by rw [Tryd.params12]; rfl) rfl hd0
  obtain ⟨us1, hr1, ht1, hz1⟩ := open_texts (hval 1 43 v1 rfl rfl) h1
  have hs1 := texts_small (j := 1) hsz (by rw [Tryd.params12]; rfl) rfl ht1
  obtain ⟨A, hE, hV2⟩ := words_laid hL
  obtain ⟨m, hM⟩ := maxlen_at hsh
  clear hA0 hval0
  refine (optionBack_walk o0 pv0 v1 ws0 us1 W A m hr0 hp0 hr1 hs0 hs1 wf0 wd0 wm0 hE hV2 hM).mono fun e W' ⟨he, hg⟩ => ?_
  subst he
  exact ⟨_, rfl, post_keep laidOut (by kernel_rfl) rfl hW' (fun _ _ _ => (trodAll_cons_mk (shut_bool Tryd.underlying4 _) trodAll_mk0)) rfl rfl hg⟩

theorem over : Rows.optionBackRow.holds Tryd.pinned (OpenSpec.ofChange Rows.optionBackSpec) :=
  OpenClaim.holds_of_wide 12 Tryd.f12 rfl rfl rfl rfl rfl rfl rfl ⟨rfl, rfl, rfl, rfl, rfl⟩ rfl rfl rfl rfl rfl (by kernel_rfl) Tryd.func12 (by kernel_rfl)
    (of_decide_eq_true (by kernel_rfl)) (by unfold Func.isWrapper; first | (rw [if_pos (by decide +kernel)]; kernel_rfl) | (rw [if_neg (by decide +kernel)]; exact ⟨rfl, rfl⟩))
    (fun os started H enc _ => lifted os started H enc)

/-- No parameter wants a stand-in. -/
theorem plain (f : FuncId) (fn : Func) (hf : Tryd.pinned.checked.prog.funcNamed "trawl/trawllaw28.OptionBack" = some f) (hfn : Tryd.pinned.checked.prog.funcs[f]? = some fn) :
    true = Tryd.pinned.checked.prog.looks [] ∧ ∀ (j : Nat) t, fn.params[j]? = some t → Tryd.pinned.checked.prog.wantsStandIn t = false := by
  obtain rfl : f = 12 := Option.some.inj ((show Tryd.prog.funcNamed "trawl/trawllaw28.OptionBack" = some 12 by kernel_rfl).symm.trans hf) |>.symm
  obtain rfl : fn = Tryd.f12 := (Option.some.inj (Tryd.func12.symm.trans hfn)).symm
  refine ⟨by kernel_rfl, fun j t ht => ?_⟩
  have hall : Tryd.f12.params.toList.all (fun t => !Tryd.prog.wantsStandIn t) = true := by kernel_rfl
  have hm := List.all_eq_true.1 hall t (by simpa using Array.mem_of_getElem? ht)
  have hn : Tryd.prog.wantsStandIn t = false := by simpa using hm
  exact hn

/-- The statement: the tied card. -/
theorem proved : Rows.OptionBackCardSaid :=
  Claim7.holds_tied_plain_at .later [] _ _ _ _ over (fun _ h => by cases h) (by kernel_rfl) (fun _ h => by cases h) optionBack_row_tie rfl ⟨rfl, rfl⟩ (by kernel_rfl) rfl plain (by kernel_rfl)
#print axioms proved
end Go.Proofs.YtkcgbdoplhgbmaaDoor.optionBack
