/- rank.spans and rank.admitted as contracts; loads of nodes and parses in drawn regions that only grow. Condition: the parse lies in memory. rank.inner and rank.parse as contracts: whether a parse is one of a right tree. Condition: both lie in memory; the scene is a new one. rank.parse as a contract: whether a parse is one of a right tree. Condition: both lie in memory; the scene is a new one of at most a million bytes. Lists of spans that the program made; rank.unset as a contract: the spans of all groups of a tree are laid to nowhere. Condition: the tree lies in memory, it is in form. -/
import Derived.Test.YtgfknlkpdiejgaaDoorZRankedWithinAB
import Derived.Test.YtgfknlkpdiejgaaDoorZRankedWithinAD
import Derived.Test.YtgfknlkpdiejgaaDoorSetC
import Derived.BigQuiet
import Derived.Test.YtgfknlkpdiejgaaDoorOctet
import Derived.Test.YtgfknlkpdiejgaaDoorRowK
namespace Go.Proofs.YtgfknlkpdiejgaaDoor
open Go Go.RowKit

section
variable {o : Oper} {a : Act} {w0 : World}
theorem PsAt.plus {w : World} {g k : Nat} {d : Pd} {sv : Value} (h : PsAt w g k d sv) (x : Ex w) : PsAt (plus w x) g k d sv := h.ext (plus_ext w x)
theorem NdAt.plus {w : World} {g k : Nat} {h : Hd} {sv : Value} (hn : NdAt w g k h sv) (x : Ex w) : NdAt (plus w x) g k h sv := hn.ext (plus_ext w x)
/-- The load of a whole node in a drawn region that only grows. -/
theorem quiet_loadNd {K : Act → Prop} (x : Operand) (ho : o.op = .load 27 x) (g k : Nat) (d : Hd) (sv : Value) (hx : a.eval x = .pointer (some ⟨g, k, none⟩)) (hN : NdAt w0 g k d sv)
    (hK : K (a.put o.dst (nodeV d sv))) : o.quiet Tryd.prog a (fun w' => ∃ x : Ex w0, w' = plus w0 x) K := by
  refine ⟨nodeV d sv, fun w' hw' => ?_, hK⟩
  obtain ⟨y, rfl⟩ := hw'
  have hr := run_loadAt_mid (P := Tryd.prog) (plus w0 y) g k 27 (nodeC d sv) _ (fun j v hv => by
    have hj : j < 10 := (List.getElem?_eq_some_iff.1 hv).1
    rw [hN.plus y j hj, hv]) Tryd.underlying27 rfl info_nd
  unfold Oper.quietAt execOp
  simp only [ho, hx, Sem.run_bind, Sem.run_pure, Result.andThen_ok, hr]
  exact ⟨rfl, rfl⟩
end

theorem fullL_drop {ps : List Ps} {k : Nat} (h : k < ps.length) : fullL (ps.drop k) = (decide (ps[k].d.a ≠ ps[k].d.b) && fullL (ps.drop (k + 1))) := by
  rw [List.drop_eq_getElem_cons h]; rfl
theorem fullL_end {ps : List Ps} {k : Nat} (h : ps.length ≤ k) : fullL (ps.drop k) = true := by
  rw [List.drop_eq_nil_of_le h]; rfl

end Go.Proofs.YtgfknlkpdiejgaaDoor

namespace Go.Proofs.YtgfknlkpdiejgaaDoor
open Go Go.RowKit

theorem decide_ne {n : Nat} {k : Nat} (h : n ≠ k) : ((n : Int) == (k : Int)) = false := by
  rw [beq_eq_false_iff_ne]; omega
section
variable {s : ByteArray} {c e : Int} {x : Value}
end

end Go.Proofs.YtgfknlkpdiejgaaDoor

namespace Go.Proofs.YtgfknlkpdiejgaaDoor
open Go Go.RowKit

section
variable {s : ByteArray} {c e : Int} {x : Value}
theorem new_begin (s : ByteArray) (c e i : Int) : sBegin (mkAt s c e s.size) i = srB s c e false i := (new_tells s c e i).2.1
theorem new_end (s : ByteArray) (c e i : Int) : sEnd (mkAt s c e s.size) i = srE s c e false i := (new_tells s c e i).2.2.1

end

end Go.Proofs.YtgfknlkpdiejgaaDoor

namespace Go.Proofs.YtgfknlkpdiejgaaDoor
open Go Go.RowKit

def spC (x : Int × Int) : List Value := [.int .i64 x.1, .int .i64 x.2]
theorem spC_len (x : Int × Int) : (spC x).length = 2 := rfl
def spR (l : List (Int × Int)) : List (List Value) := l.map spC
@[simp] theorem spR_len (l : List (Int × Int)) : (spR l).length = l.length := by simp [spR]
theorem spR_set (l : List (Int × Int)) (j : Nat) (x : Int × Int) : (spR l).set j (spC x) = spR (l.set j x) := by simp [spR, List.map_set]
theorem spR_get (l : List (Int × Int)) (j : Nat) (h : j < l.length) : (spR l)[j]? = some (spC l[j]) := by simp [spR, h]
abbrev OwnSp (w : World) (B : Nat) (v : Value) (l : List (Int × Int)) : Prop := OwnR w B 42 2 v (spR l)
theorem info_sp : (Tryd.prog.info? 42).map (·.size) = some 2 := by kernel_rfl

section
variable {ops : Array Oper} {rest : List Oper} {o : Oper} {a : Act} {w : World} {Q : Exit → Act → World → Prop}
/-- The store of a span into a list of the call's own. -/
theorem wpl_setSp (hgd : o.guard = none) (x y : Operand) (ho : o.op = .store 42 x y) (hd : o.dst = none) (B g n c : Nat) (l : List (Int × Int)) (j : Nat) (s : Int × Int) (hx : a.eval x = .pointer (some ⟨g, j * 2, none⟩)) (hy : a.eval y = .agg #[.int .i64 s.1, .int .i64 s.2])
    (hO : OwnSp w B (.slice (some ⟨g, 0, none⟩) n c) l) (hj : j < l.length)
    (hK : ∀ w1, OwnSp w1 B (.slice (some ⟨g, 0, none⟩) n c) (l.set j s) → Keeps (· = g) w w1 → wpList Tryd.prog ops Q rest a w1) : wpList Tryd.prog ops Q (o :: rest) a w := by
  have hpa : a.put o.dst undef = a := by rw [hd]; rfl
  rw [← hpa] at hK
  obtain ⟨h1, h2⟩ := OwnR.store hO (by decide) j (by simpa using hj) (spC_len s)
  rw [spR_set] at h1
  have hk : Keeps (· = g) w (w.setCells g (j * 2) (spC s)) := (Keeps.of_grown h2).mono fun i _ e => by injection e with e; exact e.symm
  refine wpList_store_mid hgd 42 x y ho g (j * 2) #[.int .i64 s.1, .int .i64 s.2] hx hy (fun i hi => ⟨?_, OwnR.frozen hO _⟩) info_sp (by simp [Value.oneCell']) (hK _ h1 hk)
  rw [OwnR.cell hO j _ (spR_get l j hj) i hi, List.getElem?_eq_getElem (show i < (spC l[j]).length from hi)]
  rfl
end

mutual
def unsetN : Nd → List (Int × Int) → List (Int × Int)
  | .mk h subs, l => unsetL subs (if h.kind = 7 ∧ h.num < l.length then l.set h.num.toNat (-1, -1) else l)
def unsetL : List Nd → List (Int × Int) → List (Int × Int)
  | [], l => l
  | n :: r, l => unsetL r (unsetN n l)
end
theorem unsetL_snoc : ∀ (a : List Nd) (n : Nd) (l : List (Int × Int)), unsetL (a ++ [n]) l = unsetN n (unsetL a l)
  | [], n, l => by simp [unsetL]
  | x :: a, n, l => by
    show unsetL (x :: (a ++ [n])) l = _
    rw [unsetL, unsetL, unsetL_snoc a n]
mutual
theorem unsetN_len : ∀ (n : Nd) (l : List (Int × Int)), (unsetN n l).length = l.length
  | .mk h subs, l => by
    rw [unsetN, unsetL_len]
    split
    · simp
    · rfl
theorem unsetL_len : ∀ (s : List Nd) (l : List (Int × Int)), (unsetL s l).length = l.length
  | [], l => by rw [unsetL]
  | n :: r, l => by rw [unsetL, unsetL_len r, unsetN_len n]
end
theorem OwnSp.len {w : World} {B g n c : Nat} {l : List (Int × Int)} (h : OwnSp w B (.slice (some ⟨g, 0, none⟩) n c) l) : n = l.length := by
  rcases OwnR.slice h with ⟨h0, _⟩ | ⟨g', cap, cur, hv, _⟩
  · cases h0
  · simp only [Value.slice.injEq, spR_len] at hv; exact hv.2.1

end Go.Proofs.YtgfknlkpdiejgaaDoor
