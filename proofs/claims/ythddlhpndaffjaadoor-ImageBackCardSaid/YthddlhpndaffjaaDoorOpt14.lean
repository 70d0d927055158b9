/- trawlref14.optional as a contract. Condition: the tree lies in memory. -/
import Derived.Test.YthddlhpndaffjaaDoorNodeB
import Derived.Test.YthddlhpndaffjaaDoorExpP
namespace Go.Proofs.YthddlhpndaffjaaDoor
open Go Go.RowKit

section
variable {ops : Array Oper} {rest : List Oper} {o : Oper} {a : Act} {w : World} {Q : Exit → Act → World → Prop}
/-- The store of a node's literal. -/
theorem wpl_storeLit (hgd : o.guard = none) (x y : Operand) (ho : o.op = .store 27 x y) (hd : o.dst = none) (g : Nat) (h' : Hd) (k n mn mx : Int) (b : Bool) (sv sv' : Value) (hx : a.eval x = .pointer (some ⟨g, 0, none⟩))
    (hy : a.eval y = .agg #[.int .i64 k, .int .u64 0, .int .u64 0, .int .u64 0, .int .u64 0, sv, .int .i64 n, .int .i64 mn, .int .i64 mx, .bool b]) (hs : isSl sv) (hB : Blk w g 27 (nodeA h' sv'))
    (hK : ∀ w1, Blk w1 g 27 (nodeA ⟨k, noS, n, mn, mx, b⟩ sv) → Keeps (· = g) w w1 → wpList Tryd.prog ops Q rest a w1) : wpList Tryd.prog ops Q (o :: rest) a w :=
  wpl_storeNd hgd x y ho hd g ⟨k, noS, n, mn, mx, b⟩ h' sv sv' hx (hy.trans (node_lit _ _ _ _ _ _)) hs hB hK
end

set_option maxRecDepth 100000 in
set_option maxHeartbeats 4000000 in
theorem opt14_any (x : Nd) (sv : Value) (mx : Int) (bare : Bool) (w : World) (S : Nat → Prop) (hn : NdIn w S x sv) (hS : ∀ b, S b → b < w.heap.size) :
    Calls Tryd.prog 79 #[nodeV x.h sv, .int .i64 mx, .bool bare] w fun r w' => ∃ sv', r = .returned (nodeV (optN mx bare x).h sv') ∧ NdIn w' (fun b => S b ∨ (w.heap.size ≤ b ∧ b < w'.heap.size)) (optN mx bare x) sv' ∧ Ext w w' := by
  have HN := Lib.hid (fun W (hW : Ext w W) => (NdIn.keep (S' := S) (fun b hb => ⟨sameAt_of_block (Below.block hW b (hS b hb)), hb⟩) hn : NdIn W S x sv))
  have hsl := hn.ok.sl
  clear hn hS
  go_enter Tryd.func79, Tryd.ntmps79
  go_wp2_with (first
    | (refine wpl_boxNd rfl _ rfl x.h _ rfl ?_; intro b w1 hb hx1 eb sb)
    | (refine wpl_allocNd rfl rfl ?_; intro z w2 hz hx2 ez sz)
    | (refine wpl_loadNd rfl _ rfl b 0 x.h sv rfl (hb.ext hx2).nd ?_)
    | (refine wpl_oneNd rfl _ rfl x.h sv rfl ?_; intro g6 w6 hg6 hx6 e6 s6)
    | (refine wpl_storeNd rfl _ _ rfl rfl z ⟨8, noS, 0, 0, mx, bare⟩ _ (.slice (some ⟨g6, 0, none⟩) 1 1) _ rfl (node_lit _ _ _ _ _ _) (isSl_mk _ _ _) (hz.ext hx6) ?_; intro w7 hz7 hk7))
  have h1 := hx1.size
  have h2 := hx2.size
  have h6 := hx6.size
  have h7 := hk7.size
  have hx26 := (hx1.trans hx2).trans hx6
  refine ret_nd rfl rfl rfl hz7 ⟨_, rfl, ?_, hx26.keep1 hk7 (by omega)⟩
  refine NdIn.one ?_ (hg6.keep1 hk7 (by omega)) (.inr ⟨by omega, by omega⟩) _ _
  exact NdIn.keep (fun b hb => ⟨rfl, .inl hb⟩) (HN.out w7 (hx26.keep1 hk7 (by omega)))

end Go.Proofs.YthddlhpndaffjaaDoor
