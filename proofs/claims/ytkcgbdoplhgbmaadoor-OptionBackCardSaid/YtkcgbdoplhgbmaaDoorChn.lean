/- Errors in links, in plain words; how such an error lies in memory. No condition. -/
import Derived.Test.YtkcgbdoplhgbmaaDoorErrs
import Derived.Test.YtkcgbdoplhgbmaaDoorKeeps
namespace Go.Proofs.YtkcgbdoplhgbmaaDoor
open Go Go.RowKit Go.Extern.Stop Go.Stop Go.Extern

/-- The types of a link (In: a Listed; else a Fault). -/
def lkT (i : Bool) : TypeId := if i then 94 else 100
def lkS (i : Bool) : TypeId := if i then 98 else 103
/-- An error in links, the outermost first: b lies innermost. -/
def Chn (w : World) : List (Bool × Int) → Value → Value → Prop
  | [], b, v => v = b
  | (i, n) :: r, b, v => ∃ g v', v = .iface (lkT i) (.pointer (some ⟨g, 0, none⟩)) ∧ Blk w g (lkS i) #[.int .i64 n, v'] ∧ Chn w r b v'
theorem Chn.ext {w w' : World} (hx : Ext w w') : ∀ {l : List (Bool × Int)} {b v : Value}, Chn w l b v → Chn w' l b v
  | [], _, _, h => h
  | (_, _) :: _, _, _, ⟨g, v', h1, h2, h3⟩ => ⟨g, v', h1, h2.ext hx, Chn.ext hx h3⟩
theorem Chn.keeps {w w' : World} {F : Nat → Prop} (hk : Keeps F w w') (hF : ∀ g i, g < w.heap.size → (∃ cs, Blk w g (lkS i) cs) → ¬ F g) : ∀ {l : List (Bool × Int)} {b v : Value}, Chn w l b v → Chn w' l b v
  | [], _, _, h => h
  | (i, _) :: _, _, _, ⟨g, v', h1, h2, h3⟩ => ⟨g, v', h1, h2.keeps hk (hF g i h2.lt ⟨_, h2⟩), Chn.keeps hk hF h3⟩
/-- An interface value that is not nil. -/
def isIf (v : Value) : Prop := ∃ t x, v = .iface t x
theorem Chn.isIf {w : World} : ∀ {l : List (Bool × Int)} {b v : Value}, Chn w l b v → isIf b → isIf v
  | [], _, _, h, hb => by obtain rfl := h; exact hb
  | (_, _) :: _, _, _, ⟨_, _, h1, _, _⟩, _ => ⟨_, _, h1⟩
/-- The number of the outermost link of a kind. -/
def firstL (k : Bool) : List (Bool × Int) → Option Int
  | [] => none
  | (i, n) :: r => if i = k then some n else firstL k r

end Go.Proofs.YtkcgbdoplhgbmaaDoor
