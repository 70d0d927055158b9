/- The error values' base: names, texts, a row's list turned into facts. No condition but that the row's listed variables hold what the row lists. -/
import Derived.Test.YtgfknlkpdiejgaaGreatDoorProg
import Derived.Test.YtgfknlkpdiejgaaGreatDoorLib
import Derived.LaidEql
import Derived.Stop.Asserts
import Derived.Stop.LaidErr
import Derived.RowKitTokens
namespace Go.Proofs.YtgfknlkpdiejgaaGreatDoor
open Go.RowKit Go.Extern.Stop Go.Stop Go.Extern

def errNames : List String := ["trawl/api.ErrBracket", "trawl/api.ErrParen", "trawl/api.ErrBrace", "trawl/api.ErrCount", "trawl/api.ErrRange", "trawl/api.ErrClass", "trawl/api.ErrCollate", "trawl/api.ErrEscape", "trawl/api.ErrRepeat", "trawl/api.ErrTooBig", "trawl/api.ErrNest", "trawl/api.ErrLong", "trawl/api.ErrTree", "trawl/api.ErrDeep", "trawl/api.ErrArgument", "trawl/api.ErrNoMatch", "trawl/api.ErrImage", "trawl/api.ErrMany", "trawl/api.ErrOption", "trawl/api.ErrCommand", "trawl/api.ErrClosed"]
def errTexts : List (List UInt8) := [[116, 114, 97, 119, 108, 58, 32, 98, 114, 97, 99, 107, 101, 116],
  [116, 114, 97, 119, 108, 58, 32, 112, 97, 114, 101, 110, 116, 104, 101, 115, 105, 115],
  [116, 114, 97, 119, 108, 58, 32, 98, 114, 97, 99, 101],
  [116, 114, 97, 119, 108, 58, 32, 99, 111, 117, 110, 116],
  [116, 114, 97, 119, 108, 58, 32, 114, 97, 110, 103, 101],
  [116, 114, 97, 119, 108, 58, 32, 99, 108, 97, 115, 115],
  [116, 114, 97, 119, 108, 58, 32, 99, 111, 108, 108, 97, 116, 105, 110, 103],
  [116, 114, 97, 119, 108, 58, 32, 101, 115, 99, 97, 112, 101],
  [116, 114, 97, 119, 108, 58, 32, 114, 101, 112, 101, 97, 116],
  [116, 114, 97, 119, 108, 58, 32, 116, 111, 111, 32, 98, 105, 103],
  [116, 114, 97, 119, 108, 58, 32, 110, 101, 115, 116, 105, 110, 103],
  [116, 114, 97, 119, 108, 58, 32, 108, 111, 110, 103],
  [116, 114, 97, 119, 108, 58, 32, 116, 114, 101, 101],
  [116, 114, 97, 119, 108, 58, 32, 100, 101, 101, 112],
  [116, 114, 97, 119, 108, 58, 32, 97, 114, 103, 117, 109, 101, 110, 116],
  [116, 114, 97, 119, 108, 58, 32, 110, 111, 32, 109, 97, 116, 99, 104],
  [116, 114, 97, 119, 108, 58, 32, 105, 109, 97, 103, 101],
  [116, 114, 97, 119, 108, 58, 32, 109, 97, 110, 121],
  [116, 114, 97, 119, 108, 58, 32, 111, 112, 116, 105, 111, 110],
  [116, 114, 97, 119, 108, 58, 32, 99, 111, 109, 109, 97, 110, 100],
  [116, 114, 97, 119, 108, 58, 32, 99, 108, 111, 115, 101, 100]]
def errD (t : List UInt8) : DataW Unit := .iface "*errors.errorString" (.ptr (.agg [.lit (.string t)]))

/-- An error value. -/
def errV (a : Addr) : Value := .iface 142 (.pointer (some a))
/-! ### from the row's list to the walk's facts -/
theorem errStar : ("*errors.errorString" : String) = "*" ++ "errors.errorString" := by decide
theorem errRow (u : TypeId) (h : Tryz.prog.typeName? 3 u = some "*errors.errorString") : u = 142 :=
  typeName_ptr_named (nm := "errors.errorString") (by rw [← errStar]; kernel_rfl) (by kernel_rfl) (by decide) u (by rw [← errStar]; exact h)
theorem errUnder : ∃ f, Tryz.prog.underlying 167 = some (.struct #[f]) ∧ f.type = 9 ∧ f.offset = 0 := ⟨_, Tryz.underlying167, rfl, rfl⟩
theorem errCells : Tryz.prog.cellsOf 167 = 1 := by kernel_rfl
theorem strCells : Tryz.prog.cellsOf 9 = 1 := by kernel_rfl

set_option maxRecDepth 100000 in
/-- One sentinel after another: the pointers, and that each place is met once. -/
theorem laid_many {W : World} : ∀ (ns : List (String × Nat × List UInt8)) (ps : List MemPlace),
    (∀ x ∈ ns, Tryz.prog.globalNamed x.1 = some x.2.1 ∧ (Tryz.prog.globals[x.2.1]?).map (·.type) = some 38) →
    DataW.LaidVars Tryz.prog W (ns.map fun x => (x.1, errD x.2.2)) ps → ps.Nodup →
    (∀ b off, MemPlace.cell b off ∈ ps → (∃ c t, W.heap[b]? = some (.cells c t (0, 0))) ∧ ∀ u v, W.cell? ⟨b, off, none⟩ = some (.iface u v) → Value.okWide Tryz.prog W .any 0 u v) →
    ∃ al : List Addr, al.length = ns.length ∧ (∀ (i : Nat) x a, ns[i]? = some x → al[i]? = some a → W.cell? ⟨x.2.1, 0, none⟩ = some (errV a) ∧ (∃ c t, W.heap[a.block]? = some (.cells c t (0, 0))) ∧ ∃ s, W.cell? a = some (.string s) ∧ s.data.toList = x.2.2) ∧
      (∀ a ∈ al, MemPlace.cell a.block a.off ∈ ps) ∧ al.Nodup
  | [], ps, _, _, _, _ => ⟨[], rfl, fun i x a h => by simp at h, fun a h => by simp at h, List.nodup_nil⟩
  | x :: ns, ps, hg, h, hnd, hrows => by
    obtain ⟨g, t, cs, fuel, p, q, hg0, ht0, hv0, hd0, hq, rfl⟩ := h
    obtain ⟨e1, e2⟩ := hg x (by simp)
    obtain rfl := Option.some.inj (e1.symm.trans hg0)
    obtain rfl := Option.some.inj (e2.symm.trans ht0)
    obtain ⟨l0⟩ := cs
    have ok0 : ∀ u v, l0 = [.iface u v] → Value.okWide Tryz.prog W .any 0 u v := fun u v e => by
      subst e
      exact (hrows x.2.1 0 (by simp [MemPlace.row])).2 u v (by simpa using World.var?_cell hg0 hv0 0)
    obtain ⟨f, hu, hft, hfo⟩ := errUnder
    obtain ⟨a, s, rfl, hc, hs, hz, rfl⟩ := errorString_of_trod Tryz.underlying38 errRow Tryz.underlying142 hu hft hfo Tryz.underlying9 errCells strCells hd0 ok0
    obtain ⟨al, hl, hi, hm, hn⟩ := laid_many ns q (fun y hy => hg y (by simp [hy])) hq (List.Nodup.sublist (List.sublist_append_right _ _) hnd) (fun b off hb => hrows b off (by simp [hb]))
    refine ⟨a :: al, by simp [hl], fun i y b hy hb => ?_, fun b hb => ?_, ?_⟩
    · cases i with
      | zero =>
        simp only [List.getElem?_cons_zero, Option.some.injEq] at hy hb
        subst hy hb
        exact ⟨by simpa [errV] using World.var?_cell hg0 hv0 0, (hrows a.block a.off (by simp [MemPlace.row])).1, s, hc, hs⟩
      | succ i => exact hi i y b (by simpa using hy) (by simpa using hb)
    · rcases List.mem_cons.1 hb with rfl | hb
      · simp [MemPlace.row]
      · exact List.mem_append_right _ (hm b hb)
    · rw [List.nodup_cons]
      refine ⟨fun hin => ?_, hn⟩
      have hin2 := hm a hin
      have hd := (List.nodup_append.1 hnd).2.2
      exact hd (MemPlace.cell a.block a.off) (by simp [MemPlace.row]) _ hin2 rfl


end Go.Proofs.YtgfknlkpdiejgaaGreatDoor
