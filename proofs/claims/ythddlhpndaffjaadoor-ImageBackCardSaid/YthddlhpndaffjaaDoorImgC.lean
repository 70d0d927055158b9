/- image.Encode and trawlref09.Encode as contracts. Condition: the tree lies in memory, it has few nodes, its lists and its image are short; the error values lie where they lie. -/
import Derived.Test.YthddlhpndaffjaaDoorImgD
import Derived.Test.YthddlhpndaffjaaDoorCheck04
import Derived.Test.YthddlhpndaffjaaDoorBytes
import Derived.Test.YthddlhpndaffjaaDoorCheck
import Derived.Test.YthddlhpndaffjaaDoorExpQ
import Derived.Lib.SlBytesConst
namespace Go.Proofs.YthddlhpndaffjaaDoor
open Go Go.RowKit

def magic : List UInt8 := [84, 82, 87, 76, 1]
theorem OwnB.conv {w : World} {B : Nat} {v : Value} {l : List UInt8} (h : OwnB w B v l) : (convert 43 9 v).run Tryd.prog w = .ok (strV l) w := conv_own w B 5 v l h
/-- A constant's bytes, just made. -/
theorem full_new (w : World) (cs : Array Value) (fz : Nat × Nat) (B n : Nat) (l : List UInt8) (hB : B ≤ w.heap.size) (hc : cs.toList = bvs l) (hn : n = l.length) : FullB (w.alloc (.cells cs 5 fz)) B (.slice (some ⟨w.heap.size, 0, none⟩) n n) l := by
  subst hn
  refine ⟨w.heap.size, fz, cs, rfl, hB, heap_alloc_new w _, fun j u hj => ?_⟩
  have h1 : (w.alloc (.cells cs 5 fz)).heap[w.heap.size]? = some (.cells cs 5 fz) := heap_alloc_new w _
  rw [← hc] at hj
  simp only [World.cell?, h1]
  simpa using hj
theorem FullB.ext {w w' : World} {B : Nat} {v : Value} {l : List UInt8} (h : FullB w B v l) (hx : Ext w w') : FullB w' B v l := by
  obtain ⟨g, fz, cs, h1, h2, h3, h4⟩ := h
  exact ⟨g, fz, cs, h1, h2, (Below.block hx g (Array.getElem?_eq_some_iff.1 h3).1).trans h3, fun j u hj => hx.cell (h4 j u hj)⟩
def encR (n : Nd) (k : Nat) : List UInt8 := if k = 0 then magic ++ imgN n else []
/-- What Encode answers. -/
def RetE (w : World) (n : Nd) (e : Value) (k : Nat) (r : Ending) (w' : World) : Prop := ∃ v, r = .returned (.tuple #[v, e]) ∧ OwnB w' w.heap.size v (encR n k) ∧ Ext w w'

set_option maxRecDepth 100000 in
set_option maxHeartbeats 4000000 in
theorem encode_any (n : Nd) (sv : Value) (w : World) (A : Nat → Addr) (m : Int) (hn : NdOk w n sv) (hE : Err3 w A) (hm : m ≤ 1000000) (hfew : 0 ≤ leftN n m) (hsh : shortN n) (hlen : chkN n = 0 → (imgN n).length ≤ 10000000) :
    Calls Tryd.prog 27 #[nodeV n.h sv] w (RetE w n (errR A (chkN n)) (chkN n)) := by
  have H1 := Lib.hid (fun W (hW : Ext w W) => check_any n sv W A m (hn.ext hW) (hE.ext hW) hm hfew)
  have HL := Lib.hid (fun W v (hW : Ext w W) (hc : chkN n = 0) (hL : AppB W w.heap.size v magic) => lay_any w n sv v magic W hn (chk_ok hc).1 hsh hW hL (by have := hlen hc; simp only [magic, List.length_cons, List.length_nil]; omega))
  have HR := Lib.hid (show ∀ k, encR n k = if k = 0 then magic ++ imgN n else [] from fun _ => rfl)
  unfold RetE
  clear hE hn hm hfew hsh hlen
  generalize chkN n = ck at *
  generalize imgN n = im at *
  generalize encR n = er at *
  generalize n.h = hd at *
  go_enter Tryd.func27, Tryd.ntmps27
  go_upto_region 1 with (refine wpl_boxNd rfl _ rfl hd _ rfl ?_; intro b w1 hb hx1 eb sb)
  by_cases hk : ck = 0
  · subst hk
    have H1' := Lib.hid (fun W hW => (by have := H1.out W hW; rwa [errR, if_pos rfl] at this : Calls Tryd.prog 31 #[nodeV hd sv] W fun r w' => r = .returned .nilIface ∧ Ext W w'))
    have HR2 := Lib.hid ((HR.out 0).trans (if_pos rfl))
    clear H1 HR
    go_upto_region 4 with (first
      | (refine wpl_loadNd rfl _ rfl b 0 hd _ rfl hb.nd ?_)
      | (go_at_call 31; refine (H1'.out _ hx1).mono ?_; rintro e w3 ⟨rfl, hx3⟩))
    have hxw := hx1.trans hx3
    have hb3 := hb.ext hx3
    have kc := fun (w : World) (C : Array Value) (n c : Nat) => Lib.run_convert_bytes_const (P := Tryd.prog) w 43 5 C n c Tryd.underlying43 Tryd.underlying5
    have hM := Lib.hid (full_new w3 #[.int .u8 84, .int .u8 82, .int .u8 87, .int .u8 76, .int .u8 1] (5, 6) w.heap.size 5 magic hxw.size rfl rfl)
    have hx4 := (Ext.refl w3).alloc (.cells #[.int .u8 84, .int .u8 82, .int .u8 87, .int .u8 76, .int .u8 1] 5 (5, 6))
    have hC := Lib.hid (HL.out _ _ (hxw.trans hx4) trivial (.inr hM.out))
    have hb4 := hb3.ext hx4
    go_wp2_with (first
      | (refine wpl_loadNd rfl _ rfl b 0 hd _ rfl hb4.nd ?_)
      | (go_at_call 59; refine hC.out.mono ?_; rintro e w5 ⟨v5, rfl, hL5, g5⟩))
    go_ret2
    exact ⟨v5, rfl, by rw [HR2.out]; exact hL5, g5.extA (.inr hM.out) (hxw.trans hx4) (Nat.le_refl _)⟩
  · have H1' := Lib.hid (fun W hW => (by have := H1.out W hW; rwa [errR, if_neg hk] at this : Calls Tryd.prog 31 #[nodeV hd sv] W fun r w' => r = .returned (errV (A (ck - 1))) ∧ Ext W w'))
    have HEV := Lib.hid (show errR A ck = errV (A (ck - 1)) from if_neg hk)
    have HR2 := Lib.hid ((HR.out ck).trans (if_neg hk))
    clear H1 HL HR hk
    unfold errV at *
    go_wp2_with (first
      | (refine wpl_loadNd rfl _ rfl b 0 hd _ rfl hb.nd ?_)
      | (go_at_call 31; refine (H1'.out _ hx1).mono ?_; rintro e w3 ⟨rfl, hx3⟩))
    go_ret2
    exact ⟨.slice none 0 0, by rw [HEV.out]; rfl, by rw [HR2.out]; exact Own1.nil _ _ _, hx1.trans hx3⟩

section
variable {ops : Array Oper} {rest : List Oper} {o : Oper} {a : Act} {w : World} {Q : Exit → Act → World → Prop}
/-- 'append([]byte("const"), more...)'. -/
theorem wpl_appFs (hgd : o.guard = none) (s x : Operand) (ho : o.op = .call { callee := .builtin .append, args := #[s, x], argTypes := #[43, 43] })
    (B B' : Nat) (v v2 : Value) (l m : List UInt8) (hs : a.eval s = v) (hx : a.eval x = v2) (hL : FullB w B v l) (hM : OwnB w B' v2 m) (hm0 : 0 < m.length) (hl : l.length ≤ 1000000000000) (hm : m.length ≤ 1000000000000)
    (hK : ∀ v' w1, OwnB w1 w.heap.size v' (l ++ m) → Ext w w1 → wpList Tryd.prog ops Q rest (a.put o.dst v') w1) : wpList Tryd.prog ops Q (o :: rest) a w := by
  obtain ⟨g', fz, cs, rfl, h2, h3, h4⟩ := hL
  obtain ⟨i, hi0, hz0, hz1, hz2⟩ := info_parts info_u8
  rcases Own1.slice hM with ⟨_, h0⟩ | ⟨g, cap, cur, h1, _⟩
  · rw [List.eq_nil_of_map_eq_nil h0] at hm0
    cases hm0
  · subst h1
    refine wpList_append_grows w hgd s x _ ho 5 i _ 1 1 Tryd.underlying43 hi0 hz0 hz1 hz2 rfl (by omega) (some ⟨g', 0, none⟩) l.length l.length (bvs l) hs (fun e => by cases e) (by rw [bvs_len]; omega) (fun b hb j u hj => ?_) ⟨g, 0, none⟩ (bvs m).length cap (bvs m) hx (by omega) (fun j u hj => ?_) (bvs_one _) (by rw [bvs_len]; omega) (by rw [bvs_len]; simp only [maxLen]; omega) (by rw [bvs_len]; omega) ?_
    · obtain rfl := Option.some.inj hb
      have ea : (⟨g', 0, none⟩ : Addr).add j = ⟨g', j, none⟩ := by unfold Addr.add; split <;> simp_all
      rw [ea]
      exact h4 j u hj
    · have := (Own1.cells hM).2 j u hj
      have ea : (⟨g, 0, none⟩ : Addr).add j = ⟨g, j, none⟩ := by unfold Addr.add; split <;> simp_all
      rwa [ea]
    · intro v' w' h5 h6
      refine hK v' w' ?_ ((Ext.refl w).grown h6 (fun _ e => by cases e))
      unfold OwnB Own1
      rw [bvs_app, List.length_append, bvs_len]
      exact h5
end

set_option maxRecDepth 100000 in
set_option maxHeartbeats 4000000 in
theorem encode09_any (n : Nd) (sv : Value) (w : World) (m : Int) (hn : NdOk w n sv) (hm : m ≤ 1000000) (hfew : 0 ≤ leftN n m) (hsh : shortN n) (hlen : chkN n = 0 → (imgN n).length ≤ 10000000) :
    Calls Tryd.prog 28 #[nodeV n.h sv] w (RetE w n (.int .i64 (chkN n)) (chkN n)) := by
  have H1 := Lib.hid (fun W (hW : Ext w W) => check04_any n sv W m (hn.ext hW) hm hfew)
  have HL := Lib.hid (fun W (hW : Ext w W) (hc : chkN n = 0) => node09_any n sv W (hn.ext hW) (chk_ok hc).1 hsh (by have := hlen hc; omega))
  have HR := Lib.hid (show ∀ k, encR n k = if k = 0 then magic ++ imgN n else [] from fun _ => rfl)
  have hlen0 : 0 < (imgN n).length := by obtain ⟨h, s⟩ := n; rw [imgN]; simp
  unfold RetE
  have HLN := Lib.hid hlen
  clear hn hm hfew hsh hlen
  generalize chkN n = ck at *
  generalize imgN n = im at *
  generalize encR n = er at *
  generalize n.h = hd at *
  go_enter Tryd.func28, Tryd.ntmps28
  go_upto_region 1 with (refine wpl_boxNd rfl _ rfl hd _ rfl ?_; intro b w1 hb hx1 eb sb)
  by_cases hk : ck = 0
  · subst hk
    have HR2 := Lib.hid ((HR.out 0).trans (if_pos rfl))
    have hlen := HLN.out rfl
    clear HR
    go_upto_region 4 with (first
      | (refine wpl_loadNd rfl _ rfl b 0 hd _ rfl hb.nd ?_)
      | (go_at_call 54; refine (H1.out _ hx1).mono ?_; rintro e w3 ⟨rfl, hx3⟩))
    have hxw := hx1.trans hx3
    have hb3 := hb.ext hx3
    have kc := fun (w : World) (C : Array Value) (n c : Nat) => Lib.run_convert_bytes_const (P := Tryd.prog) w 43 5 C n c Tryd.underlying43 Tryd.underlying5
    have hM := Lib.hid (full_new w3 #[.int .u8 84, .int .u8 82, .int .u8 87, .int .u8 76, .int .u8 1] (5, 6) w.heap.size 5 magic hxw.size rfl rfl)
    have hx4 := (Ext.refl w3).alloc (.cells #[.int .u8 84, .int .u8 82, .int .u8 87, .int .u8 76, .int .u8 1] 5 (5, 6))
    have hC := Lib.hid (HL.out _ (hxw.trans hx4) trivial)
    have hb4 := hb3.ext hx4
    have hxw4 := hxw.trans hx4
    go_wp2_with (first
      | (refine wpl_loadNd rfl _ rfl b 0 hd _ rfl hb4.nd ?_)
      | (go_at_call 60; refine hC.out.mono ?_; rintro e w5 ⟨v5, rfl, hL5, hx5⟩)
      | (refine wpl_appFs rfl _ _ rfl w.heap.size _ (.slice (some ⟨w3.heap.size, 0, none⟩) 5 5) v5 magic im rfl rfl (hM.out.ext hx5) hL5 hlen0 (by decide) (by omega) ?_; intro v6 w6 hL6 hx6))
    go_ret2
    exact ⟨v6, rfl, by rw [HR2.out]; exact hL6.mono (Nat.le_trans hxw4.size hx5.size), (hxw4.trans hx5).trans hx6⟩
  · have HR2 := Lib.hid ((HR.out ck).trans (if_neg hk))
    have n1 : ((ck : Int) != 0) = true := by simpa using hk
    clear HL HR hk
    go_wp2_with (first
      | (refine wpl_loadNd rfl _ rfl b 0 hd _ rfl hb.nd ?_)
      | (go_at_call 54; refine (H1.out _ hx1).mono ?_; rintro e w3 ⟨rfl, hx3⟩))
    go_ret2
    exact ⟨.slice none 0 0, rfl, by rw [HR2.out]; exact Own1.nil _ _ _, hx1.trans hx3⟩

end Go.Proofs.YthddlhpndaffjaaDoor
