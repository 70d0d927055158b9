/- trawlref22.Best of any right tree. Conditions: the tree lies in memory and takes the piece. trawlref12.row and empties as contracts. Condition: the parses lie in memory. trawlref12.subs as a contract. Condition: tree and parse lie in memory, the tree is in form. What the reference asks of a parse is what the program asks, in plain words. No program. -/
import Derived.Test.YtgfknlkpdiejgaaGreatDoorZRankedSpansBA
import Derived.Test.YtgfknlkpdiejgaaGreatDoorZRankedSpansAK
import Derived.Test.YtgfknlkpdiejgaaGreatDoorZRankedSpansAC
import Derived.Test.YtgfknlkpdiejgaaGreatDoorZRankedSpansAD
namespace Go.Proofs.YtgfknlkpdiejgaaGreatDoor
open Go Go.RowKit

section
variable {s : ByteArray} {c e : Int}
set_option maxRecDepth 100000 in
set_option maxHeartbeats 32000000 in
theorem best_rp (h : Hd) (t : Nd) (IH : BestOf s c e t) (hs : s.size ≤ 1000000) (hk : h.kind = 8) : BestOf s c e (.mk h [t]) := by
  intro svn a b w hn hf hsm ht hb
  have hcase := form_cases hf
  have hsub := form_sub hf
  have hL := lfR_ok s c e false
  have hab := (tkN_mon hL _ a b ht).1
  have HRD := Lib.hid (fun W (hW : Ext w W) => rounds22_any h t IH hs hk svn a b W (NdCap.ext hW hn) hf hsm ht hb)
  have HBE := Lib.hid (show bestN (lfR s c e false) (.mk h [t]) a b = .mk ⟨a, b, 0⟩ (repR (fun x y => bestA (lfR s c e false) [t] x y) (fun x y => tkA (lfR s c e false) [t] x y) h.bare h.min h.max a b) from by rw [bestN, if_neg (by omega), if_neg (by omega), if_neg (by omega), if_pos hk])
  obtain ⟨be, hbe⟩ : ∃ be, be = bestN (lfR s c e false) (.mk h [t]) a b := ⟨_, rfl⟩
  rw [← hbe] at HBE ⊢
  have HNC := Lib.hid hn
  obtain ⟨SA, sc, rfl, hcl, hNs⟩ := hn
  have HNS := Lib.hid hNs
  simp only [Nd.h] at *
  unfold srV at *
  clear hsub hNs hf ht IH hbe hsm hcase
  go_enter Tryz.func35, Tryz.ntmps35
  go_upto_region 2 with (first
    | (refine wpl_boxNd rfl _ rfl h _ rfl ?_; intro z w1 hbz hx1 ez sz)
    | (have := hz8; refine wpl_allocPs rfl rfl ?_; intro z9 w4 hz9 hx4 e9 s9)
    | (refine wpl_allocPs rfl rfl ?_; intro z8 w3 hz8 hx3 e8 s8)
    | (refine wpl_storePs rfl _ _ rfl rfl z9 ⟨a, b, 0⟩ _ (.slice none 0 0) _ rfl rfl (isSl_mk _ _ _) hz9 ?_; intro w5 hz5 hk5))
  have hV := Blk.new w1 35 #[.string s, .int .i64 c, .int .i64 e, .bool false]
  have hxv := (Ext.refl w1).alloc (.cells #[.string s, .int .i64 c, .int .i64 e, .bool false] 35)
  generalize w1.alloc (.cells #[.string s, .int .i64 c, .int .i64 e, .bool false] 35) = wv at *
  generalize w1.heap.size = gu at *
  have hxA : Ext w3 w5 := hx4.keep1 hk5 e9
  have hxB : Ext wv w5 := hx3.trans hxA
  have hxW : Ext w w5 := (hx1.trans hxv).trans hxB
  have hb5 := hbz.ext (hxv.trans hxB)
  have hV5 := hV.ext hxB
  have hz85 := hz8.ext hxA
  have y0 : w5.cell? ⟨z, 0, none⟩ = some (.int .i64 h.kind) := hb5.cell 0
  have HZ := Lib.hid (fun W (hW : Ext w5 W) => (hb5.ext hW).nd)
  have HZK := Lib.hid hb5
  have HUK := Lib.hid hV5
  have HZ8 := Lib.hid hz85
  have HZ9 := Lib.hid hz5
  have HX := Lib.hid hxW
  have hws1 := (hx1.trans hxv).size
  have hws3 := hx3.size
  have hws5 := hk5.size
  have hws4 := hx4.size
  obtain ⟨wB, hwB0, hwB1, h9B, h8B, hwB⟩ : ∃ wB, wB ≤ w5.heap.size ∧ w5.heap.size ≤ wB ∧ z9 < wB ∧ z8 < wB ∧ w.heap.size ≤ wB := ⟨w5.heap.size, Nat.le_refl _, Nat.le_refl _, by omega, by omega, by omega⟩
  have h9w : w.heap.size ≤ z9 := by omega
  have h8w : w.heap.size ≤ z8 := by omega
  have h89 : z8 ≠ z9 := by omega
  have hz9n : z ≠ z9 := by have := hV.lt; omega
  have hu9n : gu ≠ z9 := by have := hV.lt; omega
  have hx55 := Ext.refl w5
  clear hV hxv hxA hxB hxW hb5 hV5 hz85 hws1 hws3 hws5 hws4 hbz hx1 ez sz hz8 hx3 e8 s8 this hz9 hx4 e9 s9 hz5 hk5
  rw [hk] at y0
  generalize repR (fun x y => bestA (lfR s c e false) [t] x y) (fun x y => tkA (lfR s c e false) [t] x y) h.bare h.min h.max a b = RS at *
  simp only [List.length_cons, List.length_nil, Nat.zero_add] at *
  have HRW := Lib.hid (HRD.out w5 HX.out)
  have y1 : w5.cell? ⟨gu, 0, none⟩ = some (.string s) := HUK.out.cell 0
  have y2 : w5.cell? ⟨gu, 1, none⟩ = some (.int .i64 c) := HUK.out.cell 1
  have y3 : w5.cell? ⟨gu, 2, none⟩ = some (.int .i64 e) := HUK.out.cell 2
  have y4 : w5.cell? ⟨gu, 3, none⟩ = some (.bool false) := HUK.out.cell 3
  clear HRD
  go_upto_region 22 with fail
  clear y0
  go_upto_region 23 with (first
    | (refine wpl_loadNd rfl _ rfl z 0 h (.slice SA 1 sc) rfl HZK.out.nd ?_)
    | (go_at_call 65; refine HRW.out.mono ?_; rintro e w6 ⟨sv6, rfl, hs6, hp6, hx6⟩)
    | (refine wpl_storePsS rfl _ _ rfl rfl z9 ⟨a, b, 0⟩ sv6 (.slice none 0 0) rfl rfl hs6 (HZ9.out.ext hx6) ?_; intro w7 hz7 hk7))
  have hpo := (((hp6.mono hwB0).keep1 hk7 h9B).head (h' := ⟨a, b, 0⟩))
  have hXW := (HX.out.trans hx6).keep1 hk7 h9w
  have hz87 := (HZ8.out.ext hx6).keep1 hk7 h89
  have hz9w := hz7
  have hz8w := hz87
  repeat (first | (refine wpl_loadPs rfl _ rfl z9 0 ⟨a, b, 0⟩ sv6 rfl hz9w.ps ?_) | (refine wpl_storePs rfl _ _ rfl rfl z8 ⟨a, b, 0⟩ _ sv6 _ rfl rfl hs6 hz8w ?_; intro w9 hz8' hk8) | go_skip | go_guarded | go_step | go_upon)
  refine ret_ps rfl rfl rfl hz8' ⟨sv6, by rw [HBE.out]; rfl, by rw [HBE.out]; exact (hpo.keep1 hk8 h8B).mono hwB, hXW.keep1 hk8 h8w⟩
theorem best_any (hs : s.size ≤ 1000000) : ∀ t : Nd, BestOf s c e t := by
  refine Nd.ind fun h subs ih => ?_
  intro svn a b W hn hf hsm ht hb
  rcases form_cases hf with h1 | h1 | h1 | h1 | h1 | h1 | h1 | h1
  · exact best_leaf h subs (by omega) svn a b W hn hf hsm ht hb
  · exact best_leaf h subs (by omega) svn a b W hn hf hsm ht hb
  · exact best_leaf h subs (by omega) svn a b W hn hf hsm ht hb
  · exact best_leaf h subs (by omega) svn a b W hn hf hsm ht hb
  · exact best_seq h subs ih hs h1.1 svn a b W hn hf hsm ht hb
  · exact best_alt h subs ih hs h1.1 svn a b W hn hf hsm ht hb
  · obtain ⟨x, rfl⟩ := List.length_eq_one_iff.1 h1.2.1
    exact best_grp h x (ih x (by simp)) h1.1 svn a b W hn hf hsm ht hb
  · obtain ⟨x, rfl⟩ := List.length_eq_one_iff.1 h1.2.1
    exact best_rp h x (ih x (by simp)) hs h1.1 svn a b W hn hf hsm ht hb
end

end Go.Proofs.YtgfknlkpdiejgaaGreatDoor

namespace Go.Proofs.YtgfknlkpdiejgaaGreatDoor
open Go Go.RowKit

/-- Do parses stand one behind the other? -/
def rowB : List Ps → Int → Int → Bool
  | [], a, b => decide (a = b)
  | p :: r, a, b => decide (p.d.a = a) && decide (a ≤ p.d.b) && rowB r p.d.b b
theorem rowB_step {ps : List Ps} {k : Nat} (h : k < ps.length) (a b : Int) : rowB (ps.drop k) a b = (decide (ps[k].d.a = a) && decide (a ≤ ps[k].d.b) && rowB (ps.drop (k + 1)) ps[k].d.b b) := by
  rw [List.drop_eq_getElem_cons h, rowB]
theorem rowB_done {ps : List Ps} {k : Nat} (h : ps.length ≤ k) (a b : Int) : rowB (ps.drop k) a b = decide (a = b) := by
  rw [List.drop_eq_nil_of_le h, rowB]
/-- How many are empty. -/
def empN : List Ps → Int
  | [] => 0
  | p :: r => (if p.d.a = p.d.b then 1 else 0) + empN r
theorem empN_nn : ∀ l : List Ps, 0 ≤ empN l ∧ empN l ≤ l.length
  | [] => by simp [empN]
  | p :: r => by
    have := empN_nn r
    rw [empN]
    simp only [List.length_cons]
    split <;> omega
theorem empN_full : ∀ l : List Ps, fullL l = decide (empN l = 0)
  | [] => by simp [fullL, empN]
  | p :: r => by
    have h1 := empN_full r
    have h2 := empN_nn r
    have e : fullL (p :: r) = (decide (p.d.a ≠ p.d.b) && fullL r) := rfl
    rw [e, h1, empN]
    by_cases h : p.d.a = p.d.b
    · rw [if_pos h, Bool.eq_iff_iff]
      simp [h]
      omega
    · rw [if_neg h]
      simp [h]
theorem empN_step {ps : List Ps} {k : Nat} (h : k < ps.length) : empN (ps.drop k) = (if ps[k].d.a = ps[k].d.b then 1 else 0) + empN (ps.drop (k + 1)) := by
  rw [List.drop_eq_getElem_cons h, empN]

set_option maxRecDepth 100000 in
set_option maxHeartbeats 2000000 in
theorem empties_any (d : Pd) (ps : List Ps) (A : Option Addr) (n c : Nat) (m : Nat) (w : World) (hp : PsOk w (.mk d ps) (.slice A n c)) (hlen : ps.length ≤ 1000000) (hm : m ≤ ps.length) :
    Calls Tryz.prog 91 #[.slice A n c, .int .i64 m] w fun r w' => r = .returned (.int .i64 (empN (ps.drop m))) ∧ Ext w w' := by
  obtain ⟨A', c', hsl⟩ := hp.shape
  simp only [Value.slice.injEq, Ps.subs] at hsl
  obtain ⟨rfl, rfl, rfl⟩ := hsl
  have HP := Lib.hid hp
  clear hp
  have hnn := (empN_nn (ps.drop m))
  rw [List.length_drop] at hnn
  have HR0 := Lib.hid (show empN (ps.drop m) = 0 + empN (ps.drop m) by omega)
  generalize hres : empN (ps.drop m) = res at HR0 hnn ⊢
  have HRS := Lib.hid hres
  clear hres
  have hxx := Ext.refl w
  go_enter Tryz.func91, Tryz.ntmps91
  go_wp2
  go_loopw [5, 6] (fun f i wr => ∃ (k : Nat) (p : Int), k ≤ ps.length ∧ i = .int .i64 k ∧ f = .int .i64 p ∧ Hid (res = p + empN (ps.drop k)) ∧ Hid (0 ≤ p) ∧ Ext w wr) (fun _ i _ => ps.length - (intOf i).toNat)
  case atStart => exact ⟨m, 0, hm, rfl, rfl, Lib.hid (by rw [HRS.out]; omega), Lib.hid (by omega), hxx⟩
  case round =>
    clear HR0 HRS hxx
    obtain ⟨k, p, hk, rfl, rfl, hr, hpn, hx⟩ := hrel
    by_cases hlt : k < ps.length
    · obtain ⟨g, o, sv, rfl, hat, hok⟩ := HP.out.get k hlt
      obtain ⟨e0, e1, _, _⟩ := ps_cells hat hx
      have q0 := cell_plus e0
      have q1 := cell_plus e1
      have HST := Lib.hid (hr.out.trans (by rw [empN_step hlt]))
      have HNN := Lib.hid (empN_nn (ps.drop (k + 1)))
      clear hat hok HP hr e0 e1
      generalize ps[k] = q at *
      generalize q.d.a = qa at *
      generalize q.d.b = qb at *
      have t1 : (k : Int) < (ps.length : Int) := by omega
      go_upto_region 5 with fail
      refine wp_region_plus (by kernel_rfl) (by kernel_rfl) ?_
      repeat (go_big_quiet_step (fail))
      refine wpQuiet_nil ?_
      intro z
      clear q0 q1
      by_cases h1 : qa = qb
      · have f1 : (qa == qb) = true := by simpa using h1
        have HS2 := Lib.hid (show res = (p + 1) + empN (ps.drop (k + 1)) by rw [HST.out, if_pos h1]; omega)
        have hw : IntKind.i64.wrap (p + 1) = p + 1 := by rw [IntKind.wrap_i64]; have := hpn.out; have := HS2.out; have := HNN.out; omega
        clear HST h1
        go_wp2
        go_roundw
        case rel => exact ⟨k + 1, p + 1, by omega, by go_num, rfl, HS2, Lib.hid (by have := hpn.out; omega), hx.trans (plus_ext _ z)⟩
        case measure => simp [intOf]; omega
      · have f1 : (qa == qb) = false := by simpa using h1
        have HS2 := Lib.hid (show res = p + empN (ps.drop (k + 1)) by rw [HST.out, if_neg h1]; omega)
        clear HST h1
        go_wp2
        go_roundw
        case rel => exact ⟨k + 1, p, by omega, by go_num, rfl, HS2, hpn, hx.trans (plus_ext _ z)⟩
        case measure => simp [intOf]; omega
    · have t1 : ¬ (k : Int) < (ps.length : Int) := by omega
      have FIN := Lib.hid (show res = p by rw [hr.out, List.drop_eq_nil_of_le (by omega), empN]; omega)
      clear hr HP
      go_wp2
      go_ret
      exact ⟨by rw [FIN.out]; rfl, hx⟩

end Go.Proofs.YtgfknlkpdiejgaaGreatDoor

namespace Go.Proofs.YtgfknlkpdiejgaaGreatDoor
open Go Go.RowKit

def okR (h : Hd) (len : Nat) (d : Pd) (ps : List Ps) : Bool :=
  if h.kind = 5 then decide (ps.length = len)
  else if h.kind = 6 then decide (ps.length = 1 ∧ 0 ≤ d.k ∧ d.k < len)
  else if h.kind = 7 then decide (ps.length = 1)
  else if h.kind = 8 then decide (h.min ≤ ps.length) && (decide (h.max = -1) || decide (ps.length ≤ h.max)) && (decide (empN (ps.drop h.min.toNat) = 0) || (decide (ps.length = 1) && decide (h.min = 0) && !h.bare))
  else decide (ps.length = 0)
/-- What subs answers. -/
def RetSubs (w : World) (h : Hd) (nds : List Nd) (ok : Bool) (r : Ending) (w' : World) : Prop := ∃ v, r = .returned (.tuple #[v, .bool ok]) ∧ (ok = true → NdCap w' (.mk h nds) v) ∧ Ext w w'
theorem rep_ok {w : World} {B : Nat} {v : Value} {n : Nd} {sv : Value} {k : Nat} (h : Hd) (hO : OwnR w B 27 10 v (List.replicate k (nodeC n.h sv))) (hn : NdCap w n sv) : NdCap w (.mk h (List.replicate k n)) v := by
  rcases hO.slice with ⟨rfl, h0⟩ | ⟨g, cap, cur, hv, _, _, hcap, _⟩
  · have : k = 0 := by
      have := congrArg List.length h0
      simpa using this
    subst this
    unfold NdCap
    exact ⟨none, 0, rfl, Nat.le_refl _, trivial⟩
  · subst hv
    unfold NdCap
    refine ⟨_, cap, by simp, by simpa using hcap, NdsCap.of fun j hj => ⟨g, 0, sv, rfl, fun i hi => ?_, by simpa using hn⟩⟩
    have hj' : j < k := by simpa using hj
    have := hO.cell j (nodeC n.h sv) (by simp [hj']) i hi
    rw [show 0 + (0 + j) * 10 + i = j * 10 + i by omega, this]
    simp

set_option maxRecDepth 100000 in
set_option maxHeartbeats 8000000 in
theorem subs_any (h : Hd) (subs : List Nd) (svn : Value) (d : Pd) (ps : List Ps) (svp : Value) (w : World) (hn : NdCap w (.mk h subs) svn) (hp : PsOk w (.mk d ps) svp) (hf : formB (.mk h subs) = true) (hlen : ps.length ≤ 1000000) (hsl : subs.length ≤ 1000000) :
    Calls Tryz.prog 81 #[nodeV h svn, psV d svp] w (RetSubs w h (if h.kind < 5 then [] else ndsOf h subs d ps.length) (okR h subs.length d ps)) := by
  obtain ⟨A, c1, rfl⟩ := hp.shape
  obtain ⟨A', c2, rfl⟩ := hn.ok.shape
  simp only [Ps.subs, Nd.subs] at *
  have hcase := form_cases hf
  have HP := Lib.hid hp
  have HN := Lib.hid hn
  obtain ⟨ok, HO⟩ : ∃ ok, Hid (ok = okR h subs.length d ps) := ⟨_, Lib.hid rfl⟩
  obtain ⟨nds, HD⟩ : ∃ nds, Hid (nds = if h.kind < 5 then [] else ndsOf h subs d ps.length) := ⟨_, Lib.hid rfl⟩
  rw [← HO.out, ← HD.out]
  clear hf hp hn
  go_enter Tryz.func81, Tryz.ntmps81
  go_upto_region 1 with (first
    | (refine wpl_boxNd rfl _ rfl h _ rfl ?_; intro z w1 hb hx1 ex sx)
    | (refine wpl_boxPs rfl _ rfl d _ rfl ?_; intro y w2 hc hx2 ey sy))
  have hb2 := hb.ext hx2
  have hx12 := hx1.trans hx2
  clear hb hx1 hx2 ex sx ey sy
  have n0 : w2.cell? ⟨z, 0, none⟩ = some (.int .i64 h.kind) := hb2.cell 0
  have n5 : w2.cell? ⟨z, 5, none⟩ = some (.slice A' subs.length c2) := hb2.cell 5
  have n7 : w2.cell? ⟨z, 7, none⟩ = some (.int .i64 h.min) := hb2.cell 7
  have n8 : w2.cell? ⟨z, 8, none⟩ = some (.int .i64 h.max) := hb2.cell 8
  have n9 : w2.cell? ⟨z, 9, none⟩ = some (.bool h.bare) := hb2.cell 9
  have p2 : w2.cell? ⟨y, 2, none⟩ = some (.int .i64 d.k) := hc.cell 2
  have p3 : w2.cell? ⟨y, 3, none⟩ = some (.slice A ps.length c1) := hc.cell 3
  clear hb2 hc
  have HLE := Lib.hid (show ∀ k : Nat, ((ps.length : Int) == (k : Int)) = decide (ps.length = k) from fun k => by rw [Bool.eq_iff_iff]; simp; omega)
  have hk : h.kind < 5 ∨ h.kind = 5 ∨ h.kind = 6 ∨ h.kind = 7 ∨ h.kind = 8 := by omega
  rcases hk with hk | hk | hk | hk | hk
  · -- a leaf
    have HO2 := Lib.hid (show ok = ((ps.length : Int) == ((0 : Nat) : Int)) by rw [HO.out, HLE.out]; unfold okR; rw [if_neg (by omega), if_neg (by omega), if_neg (by omega), if_neg (by omega)])
    have HD2 := Lib.hid (show nds = [] by rw [HD.out, if_pos hk])
    have e5 : (h.kind == 5) = false := by rw [beq_eq_false_iff_ne]; omega
    have e6 : (h.kind == 6) = false := by rw [beq_eq_false_iff_ne]; omega
    have e7 : (h.kind == 7) = false := by rw [beq_eq_false_iff_ne]; omega
    have e8 : (h.kind == 8) = false := by rw [beq_eq_false_iff_ne]; omega
    clear HO HD HP HN hk hcase n5 n7 n8 n9 p2 HLE
    go_wp2
    go_ret2
    exact ⟨_, by rw [HO2.out]; rfl, fun _ => by rw [HD2.out]; unfold NdCap; exact ⟨none, 0, rfl, Nat.le_refl _, trivial⟩, hx12⟩
  · -- a row
    have HO2 := Lib.hid (show ok = ((ps.length : Int) == ((subs.length : Nat) : Int)) by rw [HO.out, HLE.out]; unfold okR; rw [if_pos hk])
    have HD2 := Lib.hid (show nds = subs by rw [HD.out, if_neg (by omega)]; unfold ndsOf; rw [if_neg (by omega), if_neg (by omega)])
    rw [hk] at n0
    have q5 := cell_plus n5
    clear HO HD HP hk hcase n7 n8 n9 p2 HLE
    go_upto_region 4 with fail
    refine wp_region_plus (by kernel_rfl) (by kernel_rfl) ?_
    repeat (go_big_quiet_step (fail))
    refine wpQuiet_nil ?_
    intro v
    clear q5 n0 n5 p3
    have hx := hx12.trans (plus_ext _ v)
    go_wp2
    go_ret2
    exact ⟨_, by rw [HO2.out]; rfl, fun _ => by rw [HD2.out]; exact HN.out.ext hx, hx⟩
  · -- one of several
    have HO2 := Lib.hid (show ok = decide (ps.length = 1 ∧ 0 ≤ d.k ∧ d.k < subs.length) by rw [HO.out]; unfold okR; rw [if_neg (by omega), if_pos hk])
    have HD2 := Lib.hid (show nds = [subs.getD d.k.toNat ndInh.default] by rw [HD.out, if_neg (by omega)]; unfold ndsOf; rw [if_pos hk])
    rw [hk] at n0
    clear HO HD HP hk hcase n7 n8 n9
    generalize d.k = k at *
    by_cases t1 : ps.length = 1
    case neg =>
      have f1 : ((ps.length : Int) != 1) = true := by rw [bne_iff_ne]; omega
      have FIN := Lib.hid (show ok = false by rw [HO2.out, decide_eq_false (fun h => t1 h.1)])
      clear HO2 HD2 HN HLE t1
      go_wp2
      go_ret2
      exact ⟨_, by rw [FIN.out]; rfl, fun h => absurd (FIN.out.symm.trans h) (by decide), hx12⟩
    have f1 : ((ps.length : Int) != 1) = false := by rw [t1]; rfl
    by_cases t2 : 0 ≤ k
    case neg =>
      have f2 : k < 0 := by omega
      have FIN := Lib.hid (show ok = false by rw [HO2.out, decide_eq_false (fun h => t2 h.2.1)])
      clear HO2 HD2 HN HLE t1 t2
      go_wp2
      go_ret2
      exact ⟨_, by rw [FIN.out]; rfl, fun h => absurd (FIN.out.symm.trans h) (by decide), hx12⟩
    by_cases t3 : k < subs.length
    case neg =>
      have FIN := Lib.hid (show ok = false by rw [HO2.out, decide_eq_false (fun h => t3 h.2.2)])
      clear HO2 HD2 HN HLE t1
      go_wp2
      go_ret2
      exact ⟨_, by rw [FIN.out]; rfl, fun h => absurd (FIN.out.symm.trans h) (by decide), hx12⟩
    obtain ⟨j, rfl⟩ := Int.eq_ofNat_of_zero_le t2
    have hj : j < subs.length := by omega
    obtain ⟨g, o, sv, rfl, _, _⟩ := HN.out.get j hj
    have hroom := HN.out.room.2
    have FIN := Lib.hid (show ok = true by rw [HO2.out, decide_eq_true ⟨t1, t2, t3⟩])
    have HD3 := Lib.hid (show nds = [subs[j]] by rw [HD2.out, Int.toNat_natCast, List.getD_eq_getElem?_getD, List.getElem?_eq_getElem hj]; rfl)
    have hw : IntKind.i64.wrap ((j : Int) + 1) = (j : Int) + 1 := by rw [IntKind.wrap_i64]; omega
    have t4 : (j : Int) + 1 ≤ (c2 : Int) := by omega
    clear HO2 HD2 HLE t1 t2
    go_wp2
    go_ret2
    exact ⟨_, by rw [FIN.out]; rfl, fun _ => by rw [HD3.out]; exact (HN.out.ext hx12).cut j hj (c2 - j) (by omega), hx12⟩
  · -- a group
    have HO2 := Lib.hid (show ok = ((ps.length : Int) == ((1 : Nat) : Int)) by rw [HO.out, HLE.out]; unfold okR; rw [if_neg (by omega), if_neg (by omega), if_pos hk])
    have HD2 := Lib.hid (show nds = subs by rw [HD.out, if_neg (by omega)]; unfold ndsOf; rw [if_neg (by omega), if_neg (by omega)])
    rw [hk] at n0
    clear HO HD HP hk hcase n7 n8 n9 p2 HLE
    go_wp2
    go_ret2
    exact ⟨_, by rw [HO2.out]; rfl, fun _ => by rw [HD2.out]; exact HN.out.ext hx12, hx12⟩
  · -- a repeat
    have hs1 : subs.length = 1 := by omega
    have hm0 : 0 ≤ h.min := by omega
    have hmx : -1 ≤ h.max := by omega
    have HO2 := Lib.hid (show ok = (decide (h.min ≤ ps.length) && (decide (h.max = -1) || decide (ps.length ≤ h.max)) && (decide (empN (ps.drop h.min.toNat) = 0) || (decide (ps.length = 1) && decide (h.min = 0) && !h.bare))) by
      rw [HO.out]; unfold okR; rw [if_neg (by omega), if_neg (by omega), if_neg (by omega), if_pos hk])
    have HD2 := Lib.hid (show nds = List.replicate ps.length (subs.getD 0 ndInh.default) by rw [HD.out, if_neg (by omega)]; unfold ndsOf; rw [if_neg (by omega), if_pos hk])
    obtain ⟨n, rfl⟩ := len_one hs1
    obtain ⟨g0, o0, sv0, rfl, hat0, hok0⟩ := HN.out.get 0 (by simp)
    simp only [List.getElem_cons_zero, Nat.zero_mul, Nat.add_zero, List.length_singleton] at hat0 hok0 n5
    rw [hk] at n0
    clear HO HD HN hk hcase p2 hs1
    generalize h.min = mn at *
    generalize h.max = mx at *
    generalize h.bare = bare at *
    obtain ⟨m, rfl⟩ := Int.eq_ofNat_of_zero_le hm0
    by_cases t1 : ps.length < m
    · have t2 : (ps.length : Int) < (m : Int) := by omega
      have FIN := Lib.hid (show ok = false by rw [HO2.out, decide_eq_false (by omega : ¬ (m : Int) ≤ (ps.length : Int))]; rfl)
      clear HO2 HD2 HP HLE t1
      go_wp2
      go_ret2
      exact ⟨_, by rw [FIN.out]; rfl, fun h => absurd (FIN.out.symm.trans h) (by decide), hx12⟩
    have t2 : ¬ (ps.length : Int) < (m : Int) := by omega
    by_cases t3 : mx ≠ -1 ∧ mx < (ps.length : Int)
    · obtain ⟨t3, t4⟩ := t3
      have f1 : (mx != -1) = true := by rw [bne_iff_ne]; exact t3
      have FIN := Lib.hid (show ok = false by rw [HO2.out, decide_eq_false t3, decide_eq_false (by omega : ¬ (ps.length : Int) ≤ mx)]; simp)
      clear HO2 HD2 HP HLE t1 t3
      go_wp2
      go_ret2
      exact ⟨_, by rw [FIN.out]; rfl, fun h => absurd (FIN.out.symm.trans h) (by decide), hx12⟩
    have HO3 := Lib.hid (show ok = (decide (empN (ps.drop m) = 0) || (decide (ps.length = 1) && decide ((m : Int) = 0) && !bare)) by
      have e1 : (decide (mx = -1) || decide ((ps.length : Int) ≤ mx)) = true := by simp; omega
      rw [HO2.out, e1, decide_eq_true (by omega : (m : Int) ≤ (ps.length : Int)), Int.toNat_natCast]
      rfl)
    clear HO2
    go_upto_region 12 with fail
    go_cut [72] (fun v wx => v = .bool false ∧ w2 = wx)
    case first =>
      clear HO3 HD2 HP HLE
      by_cases t4 : mx = -1
      · have f1 : (mx != -1) = false := by rw [t4]; rfl
        clear t4 t3
        go_wp2
        go_meet
        case rel => exact ⟨rfl, rfl⟩
      · have f1 : (mx != -1) = true := by rw [bne_iff_ne]; exact t4
        have f2 : ¬ mx < (ps.length : Int) := fun h => t3 ⟨t4, h⟩
        clear t4 t3
        go_wp2
        go_meet
        case rel => exact ⟨rfl, rfl⟩
    obtain ⟨rfl, rfl⟩ := hcut
    have hml : m ≤ ps.length := by omega
    clear t3 n0 n8 t1 t2
    have hO0 : OwnR w2 w2.heap.size 27 10 (.slice none 0 0) (List.replicate 0 (nodeC n.h sv0)) := OwnR.nil _ _ _ _
    have hx22 := Ext.refl w2
    have HSL := Lib.hid hok0.ok.sl
    go_wp2
    go_loopw [7, 8] (fun v i wr => ∃ k : Nat, k ≤ ps.length ∧ i = .int .i64 k ∧ OwnR wr w2.heap.size 27 10 v (List.replicate k (nodeC n.h sv0)) ∧ Ext w2 wr) (fun _ i _ => ps.length - (intOf i).toNat)
    case atStart => exact ⟨0, Nat.zero_le _, rfl, hO0, hx22⟩
    case round =>
      clear hO0 hx22
      obtain ⟨k, hkl, rfl, hO, hxr⟩ := hrel
      have hxw := hx12.trans hxr
      have n5r := hxr.cell n5
      by_cases hlt : k < ps.length
      · have hat := hat0.ext hxw
        have t1 : (k : Int) < (ps.length : Int) := by omega
        have HRP := Lib.hid (show List.replicate k (nodeC n.h sv0) ++ [nodeC n.h sv0] = List.replicate (k + 1) (nodeC n.h sv0) from List.replicate_succ'.symm)
        clear HO3 HD2 HP HLE n5 n7 n9 p3 hat0 hok0
        go_upto_region 17 with (first
          | (refine wpl_loadNd rfl _ rfl g0 o0 n.h sv0 rfl hat ?_)
          | (refine wpl_oneNd rfl _ rfl n.h sv0 rfl ?_; intro g5 w5 hg5 hx5 e5 s5)
          | (refine wpList_appR rfl _ _ _ rfl w2.heap.size 27 _ 10 96 Tryz.underlying25 info_ndZ rfl (by decide) u7 _ rfl (hO.ext hx5) g5 1 (nodeC n.h sv0) rfl rfl (fun i _ => by rw [hg5.cell, nodeA_get]) (nodeC_one HSL.out) (by rw [List.length_replicate]; omega) (by rw [List.length_replicate]; omega) (hxr.trans hx5).size ?_; intro v' w6 h1 h2 h3))
        have hO6 := h1
        rw [HRP.out] at hO6
        have hx6 : Ext w2 w6 := (hxr.trans hx5).grown h2 (fun i hi => (hO.own i hi).1)
        clear h1 h2 h3 hg5 hx5 e5 s5 hO hat n5r
        go_wp2
        go_roundw
        case rel =>
          refine ⟨_, _, _, _, _, _, _, _, _, _, _, _, _, _, ⟨k + 1, by omega, ?_, hO6, hx6⟩, rfl⟩
          go_num
        case measure => simp [intOf]; omega
      · have hkk : k = ps.length := by omega
        have t1 : ¬ (k : Int) < (ps.length : Int) := by omega
        subst hkk
        have hm : m ≤ ps.length := by have := hml; omega
        have HEm := Lib.hid (fun W (hW : Ext w W) => empties_any d ps A ps.length c1 m W (HP.out.ext hW) hlen hm)
        have n7r := hxr.cell n7
        have n9r := hxr.cell n9
        have p3r := hxr.cell p3
        have HRes := Lib.hid (fun W (hW : Ext wr W) => (by rw [HD2.out]; exact rep_ok h (hO.ext hW) (hok0.ext (hxw.trans hW)) : NdCap W (.mk h nds) u7))
        have hl1 := HLE.out 1
        clear HP HD2 HLE n5 n5r n7 n9 p3 hat0 hok0 hO hm
        generalize empN (ps.drop m) = en at *
        have q1 : ((en == 0) : Bool) = decide (en = 0) := by rw [Bool.eq_iff_iff]; simp
        have q2 : ((m : Int) == 0) = decide ((m : Int) = 0) := by rw [Bool.eq_iff_iff]; simp
        have HOK : ∃ b1 b2 b3, Hid (b1 = decide (en = 0) ∧ b2 = decide (ps.length = 1) ∧ b3 = decide ((m : Int) = 0)) := ⟨_, _, _, Lib.hid ⟨rfl, rfl, rfl⟩⟩
        obtain ⟨b1, b2, b3, HOK⟩ := HOK
        rw [← HOK.out.1] at q1
        rw [← HOK.out.2.2] at q2
        have hl2 : ((ps.length : Int) == 1) = b2 := by rw [HOK.out.2.1]; exact hl1
        have HO4 := Lib.hid (show ok = (b1 || (b2 && b3 && !bare)) by rw [HO3.out, HOK.out.1, HOK.out.2.1, HOK.out.2.2])
        clear HO3 HOK hl1
        cases b1 <;> cases b2 <;> cases b3 <;> cases bare
        all_goals
          have FIN := Lib.hid HO4.out
          clear HO4
          simp only [Bool.false_or, Bool.true_or, Bool.and_true, Bool.and_false, Bool.not_true, Bool.not_false] at FIN
          go_wp2_with (go_at_call 91; refine (HEm.out _ hxw).mono ?_; rintro e w7 ⟨rfl, hx7⟩; replace n7r := hx7.cell n7r; replace n9r := hx7.cell n9r)
          go_ret2
          exact ⟨_, by rw [FIN.out]; rfl, fun _ => HRes.out _ hx7, hxw.trans hx7⟩

end Go.Proofs.YtgfknlkpdiejgaaGreatDoor

namespace Go.Proofs.YtgfknlkpdiejgaaGreatDoor
open Go Go.RowKit

section
variable {sz : Int} {L : Hd → Int → Int → Bool}
/-- Is each one a parse of its tree? -/
def allN (sz : Int) (L : Hd → Int → Int → Bool) : List Ps → List Nd → Bool
  | [], _ => true
  | _ :: _, [] => false
  | p :: r, n :: nr => parseN sz L p n && allN sz L r nr
theorem parse_le {p : Ps} {n : Nd} (h : parseN sz L p n = true) : p.d.a ≤ p.d.b := by
  obtain ⟨d, ps⟩ := p
  obtain ⟨hd, subs⟩ := n
  rw [parseN, Bool.and_eq_true] at h
  have h1 := h.1
  unfold guardP at h1
  simp only [Bool.and_eq_true, decide_eq_true_eq] at h1
  exact h1.1.1.2
theorem rowN_all : ∀ (ps : List Ps) (nds : List Nd) (a b : Int), ps.length = nds.length → rowN sz L ps nds a b = (rowB ps a b && allN sz L ps nds)
  | [], [], a, b, _ => by rw [rowN, rowB, allN, Bool.and_true]
  | p :: r, n :: nr, a, b, h => by
    rw [rowN, rowB, allN, rowN_all r nr p.d.b b (by simpa using h)]
    cases hp : parseN sz L p n
    · simp
    · have hle := parse_le hp
      by_cases h1 : p.d.a = a
      · rw [decide_eq_true h1, decide_eq_true (by omega : a ≤ p.d.b)]
        simp
      · rw [decide_eq_false h1]
        simp
  | [], _ :: _, _, _, h => by cases h
  | _ :: _, [], _, _, h => by cases h
theorem allN_step {ps : List Ps} {nds : List Nd} {k : Nat} (h : k < ps.length) (h' : k < nds.length) : allN sz L (ps.drop k) (nds.drop k) = (parseN sz L ps[k] nds[k] && allN sz L (ps.drop (k + 1)) (nds.drop (k + 1))) := by
  rw [List.drop_eq_getElem_cons h, List.drop_eq_getElem_cons h', allN]
theorem allN_done {ps : List Ps} {nds : List Nd} {k : Nat} (h : ps.length ≤ k) : allN sz L (ps.drop k) (nds.drop k) = true := by
  rw [List.drop_eq_nil_of_le h, allN]
/-- Behind the same rows both ask the same of a repeat's rounds. -/
theorem ok_same (h : Hd) (len : Nat) (d : Pd) (ps : List Ps) (nds : List Nd) (hk : 5 ≤ h.kind ∧ h.kind ≤ 8) (hmx : h.kind = 8 → -1 ≤ h.max) (hmn : h.kind = 8 → 0 ≤ h.min) :
    (okR h len d ps && rowN sz L ps nds d.a d.b) = (okB h len d ps && rowN sz L ps nds d.a d.b) := by
  have hk' : h.kind = 5 ∨ h.kind = 6 ∨ h.kind = 7 ∨ h.kind = 8 := by omega
  unfold okR okB
  rcases hk' with hk' | hk' | hk' | hk'
  · rw [if_pos hk', if_neg (by omega), if_neg (by omega), if_pos hk']
  · rw [if_neg (by omega), if_pos hk', if_pos hk']
  · rw [if_neg (by omega), if_neg (by omega), if_pos hk', if_neg (by omega), if_pos hk']
  · rw [if_neg (by omega), if_neg (by omega), if_neg (by omega), if_pos hk', if_neg (by omega), if_neg (by omega), if_neg (by omega)]
    have hx := hmx hk'
    have hn := hmn hk'
    cases hr : rowN sz L ps nds d.a d.b
    · rw [Bool.and_false, Bool.and_false]
    · rw [Bool.and_true, Bool.and_true]
      unfold admB
      have e1 : decide (h.max = -1) = decide (h.max < 0) := by rw [decide_eq_decide]; omega
      rw [e1]
      congr 1
      by_cases h1 : h.min = 0 ∧ ps.length = 1
      · obtain ⟨h1, h2⟩ := h1
        obtain ⟨p, rfl⟩ := len_one h2
        match nds, hr with
        | [], hr => rw [rowN] at hr; cases hr
        | n :: nr, hr =>
          rw [rowN, rowN, Bool.and_eq_true, Bool.and_eq_true, decide_eq_true_eq, decide_eq_true_eq] at hr
          obtain ⟨⟨ha, _⟩, hb⟩ := hr
          rw [h1]
          simp only [List.length_singleton, Int.toNat_zero, List.drop_zero]
          by_cases hab : d.a = d.b
          · rw [if_pos ⟨trivial, trivial, hab⟩]
            have : empN [p] = 1 := by rw [empN, empN, if_pos (by omega)]; rfl
            rw [this]
            simp
          · rw [if_neg (fun h => hab h.2.2)]
            have : empN [p] = 0 := by rw [empN, empN, if_neg (by omega)]; rfl
            rw [empN_full, this]
            simp
      · rw [if_neg (fun h2 => h1 ⟨h2.1, h2.2.1⟩), empN_full]
        have e2 : (decide (ps.length = 1) && decide (h.min = 0) && !h.bare) = false := by
          rw [Bool.eq_false_iff]
          intro h2
          rw [Bool.and_eq_true, Bool.and_eq_true, decide_eq_true_eq, decide_eq_true_eq] at h2
          exact h1 ⟨h2.1.2, h2.1.1⟩
        rw [e2, Bool.or_false]
theorem ndsOf_len (h : Hd) (subs : List Nd) (d : Pd) (ps : List Ps) (hf : formB (.mk h subs) = true) (hk : 5 ≤ h.kind) (hok : okR h subs.length d ps = true) : ps.length = (ndsOf h subs d ps.length).length := by
  have hc := form_cases hf
  unfold okR at hok
  have hk' : h.kind = 5 ∨ h.kind = 6 ∨ h.kind = 7 ∨ h.kind = 8 := by omega
  unfold ndsOf
  rcases hk' with hk' | hk' | hk' | hk'
  · rw [if_pos hk', decide_eq_true_eq] at hok
    rw [if_neg (by omega), if_neg (by omega)]
    exact hok
  · rw [if_neg (by omega), if_pos hk', decide_eq_true_eq] at hok
    rw [if_pos hk']
    simpa using hok.1
  · rw [if_neg (by omega), if_neg (by omega), if_pos hk', decide_eq_true_eq] at hok
    rw [if_neg (by omega), if_neg (by omega)]
    omega
  · rw [if_neg (by omega), if_pos hk']
    simp
theorem ndsOf_mem (h : Hd) (subs : List Nd) (d : Pd) (ps : List Ps) (hf : formB (.mk h subs) = true) (hk : 5 ≤ h.kind) (hok : okR h subs.length d ps = true) : ∀ n ∈ ndsOf h subs d ps.length, n ∈ subs := by
  have hc := form_cases hf
  unfold okR at hok
  have hk' : h.kind = 5 ∨ h.kind = 6 ∨ h.kind = 7 ∨ h.kind = 8 := by omega
  unfold ndsOf
  intro n hn
  rcases hk' with hk' | hk' | hk' | hk'
  · rw [if_neg (by omega), if_neg (by omega)] at hn
    exact hn
  · rw [if_neg (by omega), if_pos hk', decide_eq_true_eq] at hok
    rw [if_pos hk'] at hn
    simp only [List.mem_singleton] at hn
    have hlt : d.k.toNat < subs.length := by omega
    rw [hn, List.getD_eq_getElem?_getD, List.getElem?_eq_getElem hlt]
    exact List.getElem_mem hlt
  · rw [if_neg (by omega), if_neg (by omega)] at hn
    exact hn
  · rw [if_neg (by omega), if_pos hk'] at hn
    have hlt : 0 < subs.length := by omega
    rw [List.eq_of_mem_replicate hn, List.getD_eq_getElem?_getD, List.getElem?_eq_getElem hlt]
    exact List.getElem_mem hlt
/-- What the reference asks of a node with Subs. -/
theorem is_inner (h : Hd) (subs : List Nd) (d : Pd) (ps : List Ps) (hf : formB (.mk h subs) = true) (hk : 5 ≤ h.kind) (hok : okR h subs.length d ps = true) :
    (okB h subs.length d ps && rowN sz L ps (ndsOf h subs d ps.length) d.a d.b) = (rowB ps d.a d.b && allN sz L ps (ndsOf h subs d ps.length)) := by
  have hc := form_cases hf
  have h1 := ok_same (sz := sz) (L := L) h subs.length d ps (ndsOf h subs d ps.length) (by omega) (by omega) (by omega)
  rw [← h1, hok, Bool.true_and]
  refine rowN_all _ _ _ _ ?_
  unfold okR at hok
  have hk' : h.kind = 5 ∨ h.kind = 6 ∨ h.kind = 7 ∨ h.kind = 8 := by omega
  unfold ndsOf
  rcases hk' with hk' | hk' | hk' | hk'
  · rw [if_pos hk', decide_eq_true_eq] at hok
    rw [if_neg (by omega), if_neg (by omega)]
    exact hok
  · rw [if_neg (by omega), if_pos hk', decide_eq_true_eq] at hok
    rw [if_pos hk']
    simpa using hok.1
  · rw [if_neg (by omega), if_neg (by omega), if_pos hk', decide_eq_true_eq] at hok
    rw [if_neg (by omega), if_neg (by omega)]
    omega
  · rw [if_neg (by omega), if_pos hk']
    simp
theorem is_inner_no (h : Hd) (subs : List Nd) (d : Pd) (ps : List Ps) (hf : formB (.mk h subs) = true) (hk : 5 ≤ h.kind) (hok : okR h subs.length d ps = false) :
    (okB h subs.length d ps && rowN sz L ps (ndsOf h subs d ps.length) d.a d.b) = false := by
  have hc := form_cases hf
  have h1 := ok_same (sz := sz) (L := L) h subs.length d ps (ndsOf h subs d ps.length) (by omega) (by omega) (by omega)
  rw [← h1, hok, Bool.false_and]
end

end Go.Proofs.YtgfknlkpdiejgaaGreatDoor
