/- List literals of two nodes, of one parse, of two parses. No condition. trawlref22.Best, kind by kind. Conditions: the tree lies in memory and takes the piece. trawlref22.Best of a Seq. Conditions: the tree lies in memory and takes the piece. trawlref22.rounds: a repeat's rounds. Conditions: the tree lies in memory and takes the piece. -/
import Derived.Test.YtgfknlkpdiejgaaGreatDoorZRankedSpansAK
import Derived.Great.BuildSlice
import Derived.Test.YtgfknlkpdiejgaaGreatDoorZRankedSpansAZ
import Derived.Test.YtgfknlkpdiejgaaGreatDoorZRankedSpansAL
import Derived.Test.YtgfknlkpdiejgaaGreatDoorZRankedSpansAY
import Derived.Test.YtgfknlkpdiejgaaGreatDoorZRankedSpansAS
namespace Go.Proofs.YtgfknlkpdiejgaaGreatDoor
open Go Go.RowKit

section
variable {ops : Array Oper} {rest : List Oper} {o : Oper} {a : Act} {w : World} {Q : Exit → Act → World → Prop}
/-- A list literal of two nodes. -/
theorem wpl_twoNd (hgd : o.guard = none) (x y : Operand) (ho : o.op = .buildSlice 25 2 #[(0, x), (1, y)]) (h h' : Hd) (sv sv' : Value) (hx : a.eval x = nodeV h sv) (hy : a.eval y = nodeV h' sv')
    (hK : ∀ g w1, NdAt w1 g 0 h sv → NdAt w1 g 10 h' sv' → Ext w w1 → w.heap.size ≤ g → wpList Tryz.prog ops Q rest (a.put o.dst (.slice (some ⟨g, 0, none⟩) 2 2)) w1) : wpList Tryz.prog ops Q (o :: rest) a w := by
  obtain ⟨i, hi, hz⟩ := Option.map_eq_some_iff.1 zero_nd
  have hs : i.size = 10 := by have := info_nd; rw [hi] at this; simpa using this
  have hb : ∀ j, j < 20 → (w.alloc (.cells ((nodeC h sv ++ nodeC h' sv').toArray) 27)).cell? ⟨w.heap.size, j, none⟩ = (nodeC h sv ++ nodeC h' sv')[j]? := fun j _ => by
    rw [(Blk.new w _ _).cell]; simp
  refine wpList_buildSlice hgd 25 27 2 _ ho ((nodeC h sv ++ nodeC h' sv').toArray) i _ Tryz.underlying25 hi hz (by rw [hs]; decide) (by rw [hs]; decide) ?_ (hK _ _ (fun j hj => by
      rw [Nat.zero_add, hb j (by omega), List.getElem?_append_left (by rw [nodeC_len]; omega)]) (fun j hj => by
      rw [hb (10 + j) (by omega), List.getElem?_append_right (by rw [nodeC_len]; omega), nodeC_len, Nat.add_sub_cancel_left]) ((Ext.refl w).alloc _) (Nat.le_refl _))
  rw [hs]
  have hf := Great.fill_whole (s := 10) (by decide) [nodeV h sv, nodeV h' sv'] ((Array.range (2 * 10)).map ((nodeV ⟨0, fun _ => false, 0, 0, 0, false⟩ (.slice none 0 0)).cells[· % (nodeV ⟨0, fun _ => false, 0, 0, 0, false⟩ (.slice none 0 0)).cells.size]!)) (fun v hv => by
    simp only [List.mem_cons, List.not_mem_nil, or_false] at hv
    rcases hv with rfl | rfl <;> rfl) (by simp)
  have e : (List.map (fun x => (x.2, x.1)) ([nodeV h sv, nodeV h' sv'].zipIdx 0)) = (Array.map (fun x => (x.1, a.eval x.2)) #[(0, x), (1, y)]).toList := by simp [hx, hy, List.zipIdx]
  rw [e] at hf
  rw [hf]
  simp [nodeV_eq, Value.cells, nodeA]
theorem zero_ps : (Tryz.prog.info? 83).map (fun i => i.zero) = some (some (psV ⟨0, 0, 0⟩ (.slice none 0 0))) := by kernel_rfl
/-- A list literal of one parse. -/
theorem wpl_onePs (hgd : o.guard = none) (x : Operand) (ho : o.op = .buildSlice 81 1 #[(0, x)]) (h : Pd) (sv : Value) (hx : a.eval x = psV h sv)
    (hK : ∀ g w1, PsAt w1 g 0 h sv → Ext w w1 → w.heap.size ≤ g → wpList Tryz.prog ops Q rest (a.put o.dst (.slice (some ⟨g, 0, none⟩) 1 1)) w1) : wpList Tryz.prog ops Q (o :: rest) a w := by
  obtain ⟨i, hi, hz⟩ := Option.map_eq_some_iff.1 zero_ps
  have hs : i.size = 4 := by have := info_ps; rw [hi] at this; simpa using this
  refine wpList_buildSlice hgd 81 83 1 _ ho (psA h sv) i _ Tryz.underlying81 hi hz (by rw [hs]; decide) (by rw [hs]; decide) ?_ (hK _ _ (Blk.new w _ _).ps ((Ext.refl w).alloc _) (Nat.le_refl _))
  rw [hs]
  have hf := Great.fill_whole (s := 4) (by decide) [psV h sv] ((Array.range (1 * 4)).map ((psV ⟨0, 0, 0⟩ (.slice none 0 0)).cells[· % (psV ⟨0, 0, 0⟩ (.slice none 0 0)).cells.size]!)) (fun v hv => by simp only [List.mem_singleton] at hv; subst hv; rfl) (by simp)
  have e : (List.map (fun x => (x.2, x.1)) ([psV h sv].zipIdx 0)) = (Array.map (fun x => (x.1, a.eval x.2)) #[(0, x)]).toList := by simp [hx]
  rw [e] at hf
  rw [hf]
  simp [psV_eq, Value.cells]
theorem psC_len (d : Pd) (sv : Value) : (psC d sv).length = 4 := rfl
/-- A list literal of two parses. -/
theorem wpl_twoPs (hgd : o.guard = none) (x y : Operand) (ho : o.op = .buildSlice 81 2 #[(0, x), (1, y)]) (h h' : Pd) (sv sv' : Value) (hx : a.eval x = psV h sv) (hy : a.eval y = psV h' sv')
    (hK : ∀ g w1, PsAt w1 g 0 h sv → PsAt w1 g 4 h' sv' → Ext w w1 → w.heap.size ≤ g → wpList Tryz.prog ops Q rest (a.put o.dst (.slice (some ⟨g, 0, none⟩) 2 2)) w1) : wpList Tryz.prog ops Q (o :: rest) a w := by
  obtain ⟨i, hi, hz⟩ := Option.map_eq_some_iff.1 zero_ps
  have hs : i.size = 4 := by have := info_ps; rw [hi] at this; simpa using this
  have hb : ∀ j, j < 8 → (w.alloc (.cells ((psC h sv ++ psC h' sv').toArray) 83)).cell? ⟨w.heap.size, j, none⟩ = (psC h sv ++ psC h' sv')[j]? := fun j _ => by
    rw [(Blk.new w _ _).cell]; simp
  refine wpList_buildSlice hgd 81 83 2 _ ho ((psC h sv ++ psC h' sv').toArray) i _ Tryz.underlying81 hi hz (by rw [hs]; decide) (by rw [hs]; decide) ?_ (hK _ _ (fun j hj => by
      rw [Nat.zero_add, hb j (by omega), List.getElem?_append_left (by rw [psC_len]; omega)]) (fun j hj => by
      rw [hb (4 + j) (by omega), List.getElem?_append_right (by rw [psC_len]; omega), psC_len, Nat.add_sub_cancel_left]) ((Ext.refl w).alloc _) (Nat.le_refl _))
  rw [hs]
  have hf := Great.fill_whole (s := 4) (by decide) [psV h sv, psV h' sv'] ((Array.range (2 * 4)).map ((psV ⟨0, 0, 0⟩ (.slice none 0 0)).cells[· % (psV ⟨0, 0, 0⟩ (.slice none 0 0)).cells.size]!)) (fun v hv => by
    simp only [List.mem_cons, List.not_mem_nil, or_false] at hv
    rcases hv with rfl | rfl <;> rfl) (by simp)
  have e : (List.map (fun x => (x.2, x.1)) ([psV h sv, psV h' sv'].zipIdx 0)) = (Array.map (fun x => (x.1, a.eval x.2)) #[(0, x), (1, y)]).toList := by simp [hx, hy, List.zipIdx]
  rw [e] at hf
  rw [hf]
  simp [psV_eq, Value.cells, psA]
end
theorem NdOk.leaf (W : World) (h : Hd) (A : Option Addr) (c : Nat) : NdOk W (.mk h []) (.slice A 0 c) := by
  unfold NdOk
  exact ⟨A, c, rfl, trivial⟩
theorem NdOk.one {W : World} {n : Nd} {h : Hd} {g c : Nat} {sv : Value} (ha : NdAt W g 0 n.h sv) (hn : NdOk W n sv) : NdOk W (.mk h [n]) (.slice (some ⟨g, 0, none⟩) 1 c) := by
  unfold NdOk
  refine ⟨_, c, rfl, ⟨g, 0, sv, rfl, fun i hi => ?_, hn⟩, trivial⟩
  have := ha i hi
  rwa [Nat.zero_add] at this ⊢
theorem NdOk.two {W : World} {n n' : Nd} {h : Hd} {g c : Nat} {sv sv' : Value} (ha : NdAt W g 0 n.h sv) (hn : NdOk W n sv) (ha' : NdAt W g 10 n'.h sv') (hn' : NdOk W n' sv') : NdOk W (.mk h [n, n']) (.slice (some ⟨g, 0, none⟩) 2 c) := by
  unfold NdOk
  refine ⟨_, c, rfl, ⟨g, 0, sv, rfl, fun i hi => ?_, hn⟩, ⟨g, 0, sv', rfl, fun i hi => ?_, hn'⟩, trivial⟩
  · have := ha i hi
    rwa [Nat.zero_add] at this ⊢
  · have := ha' i hi
    rwa [show 0 + (0 + 1) * 10 + i = 10 + i by omega]
theorem PsOk.leaf (W : World) (d : Pd) (A : Option Addr) (c : Nat) : PsOk W (.mk d []) (.slice A 0 c) := by
  unfold PsOk
  exact ⟨A, c, rfl, trivial⟩
theorem PsOk.one {W : World} {p : Ps} {d : Pd} {g c : Nat} {sv : Value} (ha : PsAt W g 0 p.d sv) (hn : PsOk W p sv) : PsOk W (.mk d [p]) (.slice (some ⟨g, 0, none⟩) 1 c) := by
  unfold PsOk
  refine ⟨_, c, rfl, ⟨g, 0, sv, rfl, fun i hi => ?_, hn⟩, trivial⟩
  have := ha i hi
  rwa [Nat.zero_add] at this ⊢
theorem PsOk.two {W : World} {p p' : Ps} {d : Pd} {g c : Nat} {sv sv' : Value} (ha : PsAt W g 0 p.d sv) (hn : PsOk W p sv) (ha' : PsAt W g 4 p'.d sv') (hn' : PsOk W p' sv') : PsOk W (.mk d [p, p']) (.slice (some ⟨g, 0, none⟩) 2 c) := by
  unfold PsOk
  refine ⟨_, c, rfl, ⟨g, 0, sv, rfl, fun i hi => ?_, hn⟩, ⟨g, 0, sv', rfl, fun i hi => ?_, hn'⟩, trivial⟩
  · have := ha i hi
    rwa [Nat.zero_add] at this ⊢
  · have := ha' i hi
    rwa [show 0 + (0 + 1) * 4 + i = 4 + i by omega]

end Go.Proofs.YtgfknlkpdiejgaaGreatDoor

namespace Go.Proofs.YtgfknlkpdiejgaaGreatDoor
open Go Go.RowKit

theorem PsB.oneAt {B : Nat} {W : World} {p : Ps} {sv : Value} {g : Nat} (h : PsB B W p sv) (hg : PsAt W g 0 p.d sv) (hB : B ≤ g) : PsB B W (.mk ⟨0, 0, 0⟩ [p]) (.slice (some ⟨g, 0, none⟩) 1 1) := by
  have hl : g < W.heap.size := World.block_lt_of_cell? W ⟨g, 0 + 0, none⟩ (hg 0 (by decide))
  refine ⟨_, 1, rfl, ⟨g, 0, sv, ⟨hB, hl⟩, rfl, fun i hi => ?_, h⟩, trivial⟩
  have := hg i hi
  simpa using this
theorem info_slp : (Tryz.prog.info? 81).map (·.size) = some 1 := by kernel_rfl
section
variable {ops : Array Oper} {rest : List Oper} {o : Oper} {a : Act} {w : World} {Q : Exit → Act → World → Prop}
/-- The store of a parse's list. -/
theorem wpl_storePsS (hgd : o.guard = none) (x y : Operand) (ho : o.op = .store 81 x y) (hd : o.dst = none) (g : Nat) (d : Pd) (sv sv' : Value) (hx : a.eval x = .pointer (some ⟨g, 3, none⟩)) (hy : a.eval y = sv) (hs : isSl sv) (hB : Blk w g 83 (psA d sv'))
    (hK : ∀ w1, Blk w1 g 83 (psA d sv) → Keeps (· = g) w w1 → wpList Tryz.prog ops Q rest a w1) : wpList Tryz.prog ops Q (o :: rest) a w := by
  have hpa : a.put o.dst undef = a := by rw [hd]; rfl
  rw [← hpa] at hK
  refine wpList_plain hgd fun _ hKK => ?_
  have hc : w.cell? ⟨g, 3, none⟩ = some sv' := by rw [hB.cell]; rfl
  unfold Oper.wp execOp
  simp only [ho, hx, hy, Instr.storeAt, Instr.sureAddr, Sem.run_bind, Sem.run_pure, Result.andThen_ok, run_storeVar_cell (P := Tryz.prog) w g 3 81 sv sv' hc (hB.frozen 3) info_slp hs.one]
  exact hKK _ _ (hK _ (hB.set 3 _) ((Keeps.refl (· = g) w).setCell (.inr rfl) _))
end
theorem ret_ps {a : Act} {w : World} {fn : Func} {x : Tmp} {R : Ending → World → Prop} {g : Nat} {d : Pd} {sv : Value} (hr : fn.results = #[.cell x 83]) (hp : a.tmps.getD x undef = .pointer (some ⟨g, 0, none⟩)) (hd : a.defers = [])
    (hB : Blk w g 83 (psA d sv)) (hR : R (.returned (psV d sv)) w) : bodyPost Tryz.prog fn R .ret a w :=
  bodyPost_ret (results_cell_row hr a.tmps w g 83 (psA d sv) (0, 0) _ hp hB Tryz.underlying83 rfl (info_psA d sv)) hd hR

theorem pick_at (L : Hd → Int → Int → Bool) : ∀ (l : List Nd) (k a b : Nat) (hk : k < l.length), (∀ j (hj : j < l.length), j < k → ¬ tkN L l[j] a b) → tkN L l[k] a b → pickA L l a b = k ∧ bestA L l a b = bestN L l[k] a b
  | [], k, _, _, hk, _, _ => absurd hk (Nat.not_lt_zero _)
  | n :: r, 0, a, b, _, _, h => by
    replace h : tkN L n a b := h
    rw [pickA, bestA, if_pos h, if_pos h]; exact ⟨rfl, rfl⟩
  | n :: r, k + 1, a, b, hk, hno, h => by
    have h0 : ¬ tkN L n a b := hno 0 (by simp) (Nat.succ_pos _)
    obtain ⟨h1, h2⟩ := pick_at L r k a b (by simpa using hk) (fun j hj hjk => hno (j + 1) (by simpa using hj) (by omega)) h
    rw [pickA, bestA, if_neg h0, if_neg h0, h1, h2]; exact ⟨rfl, rfl⟩
theorem tkA_get (L : Hd → Int → Int → Bool) (l : List Nd) (a b : Int) (h : tkA L l a b) : ∃ j, ∃ hj : j < l.length, tkN L l[j] a b := by
  obtain ⟨n, hn, ht⟩ := (tkA_iff L l a b).1 h
  obtain ⟨j, hj, rfl⟩ := List.getElem_of_mem hn
  exact ⟨j, hj, ht⟩
section
variable {s : ByteArray} {c e : Int}
def BestOf (s : ByteArray) (c e : Int) (t : Nd) : Prop := ∀ (svn : Value) (a b : Nat) (W : World), NdCap W t svn → formB t = true → smallN t → tkN (lfR s c e false) t a b → b ≤ s.size →
  Calls Tryz.prog 35 #[nodeV t.h svn, srV s c e false, .int .i64 a, .int .i64 b] W (RetPsB W (bestN (lfR s c e false) t a b))
set_option maxRecDepth 100000 in
set_option maxHeartbeats 32000000 in
theorem best_alt (h : Hd) (subs : List Nd) (IH : ∀ t ∈ subs, BestOf s c e t) (hs : s.size ≤ 1000000) (hk : h.kind = 6) : BestOf s c e (.mk h subs) := by
  intro svn a b w hn hf hsm ht hb
  have hcase := form_cases hf
  have hsub := form_sub hf
  have hL := lfR_ok s c e false
  have hab := (tkN_mon hL _ a b ht).1
  have HIH := Lib.hid (fun (k : Nat) (hk : k < subs.length) sv0 W (W0 : World) (hW : Ext W0 W) (hok : NdCap W0 subs[k] sv0) (h1 : tkN (lfR s c e false) subs[k] a b) => IH subs[k] (List.getElem_mem hk) sv0 a b W (NdCap.ext hW hok) (hsub _ (List.getElem_mem hk)) (smallL_mem hsm.2 _ (List.getElem_mem hk)) h1 hb)
  have HTA := Lib.hid (fun (k : Nat) (hk : k < subs.length) sv0 W (W0 : World) (hW : Ext W0 W) (hok : NdCap W0 subs[k] sv0) => rtakes_any (s := s) (c := c) (e := e) (tn := false) subs[k] sv0 a b W hs (by omega) hb (hsub _ (List.getElem_mem hk)) (smallL_mem hsm.2 _ (List.getElem_mem hk)) (NdOk.ext hW _ _ hok.ok))
  have HTK := Lib.hid ((tk_alt h subs hk a b).1 ht)
  have HBE := Lib.hid (show bestN (lfR s c e false) (.mk h subs) a b = .mk ⟨a, b, (pickA (lfR s c e false) subs a b : Nat)⟩ [bestA (lfR s c e false) subs a b] from by rw [bestN, if_pos hk, if_pos (.inl hk)])
  have hlen : subs.length ≤ 1000000 := hsm.1
  obtain ⟨be, hbe⟩ : ∃ be, be = bestN (lfR s c e false) (.mk h subs) a b := ⟨_, rfl⟩
  rw [← hbe] at HBE ⊢
  have HNC := Lib.hid hn
  obtain ⟨SA, sc, rfl, hcl, hNs⟩ := hn
  have HNS := Lib.hid hNs
  simp only [Nd.h] at *
  unfold srV at *
  clear hsub hNs hf ht IH hbe hsm hcase
  go_enter Tryz.func35, Tryz.ntmps35
  go_upto_region 2 with (first
    | (refine wpl_boxNd rfl _ rfl h _ rfl ?_; intro z w1 hbz hx1 ez sz)
    | (have := hz8; refine wpl_allocPs rfl rfl ?_; intro z9 w4 hz9 hx4 e9 s9)
    | (refine wpl_allocPs rfl rfl ?_; intro z8 w3 hz8 hx3 e8 s8)
    | (refine wpl_storePs rfl _ _ rfl rfl z9 ⟨a, b, 0⟩ _ (.slice none 0 0) _ rfl rfl (isSl_mk _ _ _) hz9 ?_; intro w5 hz5 hk5))
  have hV := Blk.new w1 35 #[.string s, .int .i64 c, .int .i64 e, .bool false]
  have hxv := (Ext.refl w1).alloc (.cells #[.string s, .int .i64 c, .int .i64 e, .bool false] 35)
  generalize w1.alloc (.cells #[.string s, .int .i64 c, .int .i64 e, .bool false] 35) = wv at *
  generalize w1.heap.size = gu at *
  have hxA : Ext w3 w5 := hx4.keep1 hk5 e9
  have hxB : Ext wv w5 := hx3.trans hxA
  have hxW : Ext w w5 := (hx1.trans hxv).trans hxB
  have hb5 := hbz.ext (hxv.trans hxB)
  have hV5 := hV.ext hxB
  have hz85 := hz8.ext hxA
  have y0 : w5.cell? ⟨z, 0, none⟩ = some (.int .i64 h.kind) := hb5.cell 0
  have HZ := Lib.hid (fun W (hW : Ext w5 W) => (hb5.ext hW).nd)
  have HZK := Lib.hid hb5
  have HUK := Lib.hid hV5
  have HZ8 := Lib.hid hz85
  have HZ9 := Lib.hid hz5
  have HX := Lib.hid hxW
  have hws1 := (hx1.trans hxv).size
  have hws3 := hx3.size
  have hws5 := hk5.size
  have hws4 := hx4.size
  obtain ⟨wB, hwB0, hwB1, h9B, h8B, hwB⟩ : ∃ wB, wB ≤ w5.heap.size ∧ w5.heap.size ≤ wB ∧ z9 < wB ∧ z8 < wB ∧ w.heap.size ≤ wB := ⟨w5.heap.size, Nat.le_refl _, Nat.le_refl _, by omega, by omega, by omega⟩
  have h9w : w.heap.size ≤ z9 := by omega
  have h8w : w.heap.size ≤ z8 := by omega
  have h89 : z8 ≠ z9 := by omega
  have hz9n : z ≠ z9 := by have := hV.lt; omega
  have hu9n : gu ≠ z9 := by have := hV.lt; omega
  have hx55 := Ext.refl w5
  clear hV hxv hxA hxB hxW hb5 hV5 hz85 hws1 hws3 hws5 hws4 hbz hx1 ez sz hz8 hx3 e8 s8 this hz9 hx4 e9 s9 hz5 hk5
  rw [hk] at y0
  go_upto_region 5 with fail
  clear y0
  go_loopw [10, 11] (fun iv _ wr => ∃ k : Nat, k ≤ subs.length ∧ iv = .int .i64 k ∧ (∀ j (hj : j < subs.length), j < k → ¬ tkN (lfR s c e false) subs[j] a b) ∧ Ext w5 wr) (fun iv _ _ => subs.length - (intOf iv).toNat)
  case atStart => exact ⟨0, Nat.zero_le _, rfl, fun j _ h => absurd h (Nat.not_lt_zero _), hx55⟩
  case round =>
    clear hx55
    obtain ⟨k, hk2, rfl, hno, hx⟩ := hrel
    obtain ⟨w6, hw6⟩ : ∃ w, w = wr := ⟨_, rfl⟩
    subst hw6
    have HNO := Lib.hid hno
    clear hno
    have HX6 := Lib.hid hx
    have hs56 := hx.size
    have z5 : w6.cell? ⟨z, 5, none⟩ = some (.slice SA subs.length sc) := (HZK.out.ext hx).cell 5
    have hU := HUK.out.ext hx
    have y0 : w6.cell? ⟨gu, 0, none⟩ = some (.string s) := hU.cell 0
    have y1 : w6.cell? ⟨gu, 1, none⟩ = some (.int .i64 c) := hU.cell 1
    have y2 : w6.cell? ⟨gu, 2, none⟩ = some (.int .i64 e) := hU.cell 2
    have y3 : w6.cell? ⟨gu, 3, none⟩ = some (.bool false) := hU.cell 3
    have HU6 := Lib.hid hU
    clear hx hU
    by_cases hlt : k < subs.length
    · have q9 : (k : Int) < (subs.length : Int) := by omega
      obtain ⟨g0, o0, sv0, rfl, hat, hok⟩ := HNC.out.get k hlt
      have HATW := Lib.hid (fun W (hW : Ext w W) => NdAt.ext hat hW)
      have HAT := Lib.hid (NdAt.ext hat (HX.out.trans HX6.out))
      have HTK1 := Lib.hid (fun W (hW : Ext w6 W) => HTA.out k hlt sv0 W w ((HX.out.trans HX6.out).trans hW) hok)
      have HBS0 := Lib.hid (fun (h1 : tkN (lfR s c e false) subs[k] a b) W (hW : Ext w W) => HIH.out k hlt sv0 W w hW hok h1)
      have HPK := Lib.hid (fun h1 : tkN (lfR s c e false) subs[k] a b => pick_at (lfR s c e false) subs k a b hlt HNO.out h1)
      have HN1 := Lib.hid (fun (h1 : ¬ tkN (lfR s c e false) subs[k] a b) j (hj : j < subs.length) (hjk : j < k + 1) => (show ¬ tkN (lfR s c e false) subs[j] a b from by
        by_cases e : j = k
        · subst e; exact h1
        · exact HNO.out j hj (by omega)))
      have HDC := Lib.hid (img_one (R := tkN (lfR s c e false) subs[k]) (a := a) (b := b))
      clear hat hok
      obtain ⟨tk, htk⟩ : ∃ tk, tk = img (tkN (lfR s c e false) subs[k]) (oneP a) b := ⟨_, rfl⟩
      rw [← htk] at HTK1 HDC
      clear htk
      generalize tkN (lfR s c e false) subs[k] a b = TK at *
      generalize hpk : bestN (lfR s c e false) subs[k] a b = pk at *
      clear hpk
      generalize hnk : subs[k] = nk at *
      clear hnk
      have HTK := HTK1
      go_upto_region 7 with fail
      go_cut [11] (fun v wx => v = .bool tk ∧ Ext w6 wx)
      case first =>
        refine wp_region_predz 28 9 [fun v _ => v = .pointer (some ⟨z, 5, none⟩), fun v _ => v = .slice (some ⟨g0, o0, none⟩) subs.length sc, fun v _ => v = .int .i64 k, fun v _ => v = .pointer (some ⟨g0, o0 + k * 10, none⟩), fun v _ => v = nodeV nk.h sv0, fun v _ => v = .agg #[.string s, .int .i64 c, .int .i64 e, .bool false], fun v _ => v = .int .i64 a, fun v _ => v = .int .i64 b, fun v _ => v = .bool tk] Lasts.nil.is.is.is.is.is.is.is.is.is (by kernel_rfl) (by kernel_rfl) (by kernel_rfl) (by kernel_rfl) (by kernel_rfl) (by kernel_rfl) (by kernel_rfl) ?_
        intro T hT
        have r6 : List.range 9 = [0, 1, 2, 3, 4, 5, 6, 7, 8] := rfl
        simp only [spliceT, r6, List.map_cons, List.map_nil, List.take_succ_cons, List.take_zero, List.drop_succ_cons, List.drop_zero, List.cons_append, List.nil_append, Nat.reduceAdd] at hT
        simp only [List.take_succ_cons, List.take_zero, List.drop_succ_cons, List.drop_zero, AllS, Nat.reduceAdd]
        refine ⟨⟨?_, ?_, ?_, ?_, ?_, ?_, ?_, ?_, ?_, trivial⟩, ?_⟩
        · intro u W' hx hd'
          clear hd'
          rw [hT u]
          go_wp2
          exact stepQ_mk ⟨Ext.refl _, _, by first | (rw [hT]; simp [updN]) | simp [updN], rfl⟩
        · intro u W' hx hd'
          have t0 := hd' 0 (mem_of (by kernel_rfl))
          clear hd'
          replace t0 : u 0 = _ := t0
          rw [hT u, t0]
          have qf := hx.cell z5
          go_wp2
          exact stepQ_mk ⟨Ext.refl _, _, by first | (rw [hT]; simp [updN, t0]) | simp [updN, t0], rfl⟩
        · intro u W' hx hd'
          clear hd'
          rw [hT u]
          go_wp2
          exact stepQ_mk ⟨Ext.refl _, _, by first | (rw [hT]; simp [updN]) | simp [updN], rfl⟩
        · intro u W' hx hd'
          have t1 := hd' 1 (mem_of (by kernel_rfl))
          have t2 := hd' 2 (mem_of (by kernel_rfl))
          clear hd'
          replace t1 : u 1 = _ := t1
          replace t2 : u 2 = _ := t2
          rw [hT u, t1, t2]
          go_wp2
          exact stepQ_mk ⟨Ext.refl _, _, by first | (rw [hT]; simp [updN, t1, t2]) | simp [updN, t1, t2], rfl⟩
        · intro u W' hx hd'
          have t3 := hd' 3 (mem_of (by kernel_rfl))
          clear hd'
          replace t3 : u 3 = _ := t3
          rw [hT u, t3]
          go_wp2_with (refine wpl_loadNd rfl _ rfl g0 (o0 + k * 10) nk.h sv0 rfl (HAT.out.ext hx) ?_)
          exact stepQ_mk ⟨Ext.refl _, _, by first | (rw [hT]; simp [updN, t3]) | simp [updN, t3], rfl⟩
        · intro u W' hx hd'
          clear hd'
          rw [hT u]
          have q0 := hx.cell y0
          have q1 := hx.cell y1
          have q2 := hx.cell y2
          have q3 := hx.cell y3
          go_wp2
          exact stepQ_mk ⟨Ext.refl _, _, by first | (rw [hT]; simp [updN]) | simp [updN], rfl⟩
        · intro u W' hx hd'
          clear hd'
          rw [hT u]
          go_wp2
          exact stepQ_mk ⟨Ext.refl _, _, by first | (rw [hT]; simp [updN]) | simp [updN], rfl⟩
        · intro u W' hx hd'
          clear hd'
          rw [hT u]
          go_wp2
          exact stepQ_mk ⟨Ext.refl _, _, by first | (rw [hT]; simp [updN]) | simp [updN], rfl⟩
        · intro u W' hx hd'
          have t4 := hd' 4 (mem_of (by kernel_rfl))
          have t5 := hd' 5 (mem_of (by kernel_rfl))
          have t6 := hd' 6 (mem_of (by kernel_rfl))
          have t7 := hd' 7 (mem_of (by kernel_rfl))
          clear hd'
          replace t4 : u 4 = _ := t4
          replace t5 : u 5 = _ := t5
          replace t6 : u 6 = _ := t6
          replace t7 : u 7 = _ := t7
          rw [hT u, t4, t5, t6, t7]
          have HCY := Lib.hid (HTK.out W' hx)
          go_wp2_with (go_at_call 33; refine HCY.out.mono ?_; rintro e w6 ⟨rfl, hx6⟩)
          exact stepQ_mk ⟨hx6, _, by first | (rw [hT]; simp [updN, t4, t5, t6, t7]) | simp [updN, t4, t5, t6, t7], rfl⟩
        · intro u W' hx hp
          have tE : u 8 = _ := hp 8 (by omega)
          clear hp
          rw [hT u, tE]
          clear hT tE
          have HXX := Lib.hid hx
          clear hx
          go_wp2
          go_meet
          case rel => exact ⟨rfl, HXX.out⟩
      obtain ⟨rfl, hx7⟩ := hcut
      obtain ⟨w7, hw7⟩ : ∃ w, w = wc := ⟨_, rfl⟩
      subst hw7
      have HX7 := Lib.hid hx7
      cases tk with
      | false =>
        have hn1 := HN1.out (fun h => by have := HDC.out.2 h; exact absurd this (by decide))
        have hx57 := HX6.out.trans hx7
        clear y0 y1 y2 y3 z5 hx7
        go_wp2
        go_roundw
        case rel => exact ⟨k + 1, hlt, by go_num, hn1, hx57⟩
        case measure => simp [intOf]; omega
      | true =>
        have htk := HDC.out.1 rfl
        obtain ⟨hp1, hp2⟩ := HPK.out htk
        have HBS1 := Lib.hid (HBS0.out htk)
        have hBE := HBE.out
        rw [hp1, hp2] at hBE
        have HBE1 := Lib.hid hBE
        have hz97 := HZ9.out.ext (HX6.out.trans hx7)
        have HZ97 := Lib.hid hz97
        have c2 : w7.cell? ⟨z9, 2, none⟩ = some (.int .i64 0) := hz97.cell 2
        have fz2 := hz97.frozen 2
        clear hp1 hp2 hBE htk y0 y1 y2 y3 z5 hx7 hz97
        go_upto_region 9 with fail
        go_cut [38] (fun _ wx => Blk wx z9 83 (psA ⟨a, b, k⟩ (.slice none 0 0)) ∧ Keeps (· = z9) w7 wx)
        case first =>
          go_wp2
          go_meet
          case rel => exact ⟨HZ97.out.set 2 _, (Keeps.refl (· = z9) w7).setCell (p := ⟨z9, 2, none⟩) (.inr rfl) _⟩
        obtain ⟨hz9x, hk9x⟩ := hcut
        obtain ⟨w8, hw8⟩ : ∃ w, w = wc := ⟨_, rfl⟩
        subst hw8
        have HZ9 := Lib.hid hz9x
        have hxw8 := ((HX.out.trans HX6.out).trans HX7.out).keep1 hk9x h9w
        have HXW := Lib.hid hxw8
        have HAT := Lib.hid (HATW.out w8 hxw8)
        have hs8 := hk9x.size
        have hs78 := HX7.out.size
        have HBS := Lib.hid (fun W (hW : Ext w8 W) => HBS1.out W (hxw8.trans hW))
        have HWB : Hid (wB ≤ w8.heap.size) := Lib.hid (by omega)
        have z5 : w8.cell? ⟨z, 5, none⟩ = some (.slice (some ⟨g0, o0, none⟩) subs.length sc) := ((HZK.out.ext (HX6.out.trans HX7.out)).keep1 hk9x hz9n).cell 5
        have hU := (HUK.out.ext (HX6.out.trans HX7.out)).keep1 hk9x hu9n
        have y0 : w8.cell? ⟨gu, 0, none⟩ = some (.string s) := hU.cell 0
        have y1 : w8.cell? ⟨gu, 1, none⟩ = some (.int .i64 c) := hU.cell 1
        have y2 : w8.cell? ⟨gu, 2, none⟩ = some (.int .i64 e) := hU.cell 2
        have y3 : w8.cell? ⟨gu, 3, none⟩ = some (.bool false) := hU.cell 3
        have HZ88 := Lib.hid ((HZ8.out.ext (HX6.out.trans HX7.out)).keep1 hk9x h89)
        clear hU hz9x hk9x hxw8 c2 fz2 hs8 hs78
        obtain ⟨kk, hkk⟩ : ∃ kk : Int, kk = (k : Int) := ⟨_, rfl⟩
        rw [← hkk] at HBE1 HZ9
        go_upto_region 10 with fail
        refine wp_region_predz 40 11 [fun v _ => v = .pointer (some ⟨z, 5, none⟩), fun v _ => v = .slice (some ⟨g0, o0, none⟩) subs.length sc, fun v _ => v = .int .i64 k, fun v _ => v = .pointer (some ⟨g0, o0 + k * 10, none⟩), fun v _ => v = nodeV nk.h sv0, fun v _ => v = .agg #[.string s, .int .i64 c, .int .i64 e, .bool false], fun v _ => v = .int .i64 a, fun v _ => v = .int .i64 b, fun v W' => ∃ sv, v = psV pk.d sv ∧ PsB wB W' pk sv, fun v W' => ∃ g, v = .slice (some ⟨g, 0, none⟩) 1 1 ∧ PsB wB W' (.mk ⟨0, 0, 0⟩ [pk]) (.slice (some ⟨g, 0, none⟩) 1 1), fun v _ => v = .pointer (some ⟨z9, 3, none⟩)] ((Lasts.nil.is.cons fun (v : Value) V V' hx ⟨g, h1, h2⟩ => ⟨g, h1, PsB.ext h2 hx⟩).cons fun (v : Value) V V' hx ⟨sv, h1, h2⟩ => ⟨sv, h1, PsB.ext h2 hx⟩).is.is.is.is.is.is.is.is (by kernel_rfl) (by kernel_rfl) (by kernel_rfl) (by kernel_rfl) (by kernel_rfl) (by kernel_rfl) (by kernel_rfl) ?_
        intro T hT
        have r6 : List.range 11 = [0, 1, 2, 3, 4, 5, 6, 7, 8, 9, 10] := rfl
        simp only [spliceT, r6, List.map_cons, List.map_nil, List.take_succ_cons, List.take_zero, List.drop_succ_cons, List.drop_zero, List.cons_append, List.nil_append, Nat.reduceAdd] at hT
        simp only [List.take_succ_cons, List.take_zero, List.drop_succ_cons, List.drop_zero, AllS, Nat.reduceAdd]
        refine ⟨⟨?_, ?_, ?_, ?_, ?_, ?_, ?_, ?_, ?_, ?_, ?_, trivial⟩, ?_⟩
        · intro u W' hx hd'
          clear hd'
          rw [hT u]
          go_wp2
          exact stepQ_mk ⟨Ext.refl _, _, by first | (rw [hT]; simp [updN]) | simp [updN], rfl⟩
        · intro u W' hx hd'
          have t0 := hd' 0 (mem_of (by kernel_rfl))
          clear hd'
          replace t0 : u 0 = _ := t0
          rw [hT u, t0]
          have qf := hx.cell z5
          go_wp2
          exact stepQ_mk ⟨Ext.refl _, _, by first | (rw [hT]; simp [updN, t0]) | simp [updN, t0], rfl⟩
        · intro u W' hx hd'
          clear hd'
          rw [hT u]
          go_wp2
          exact stepQ_mk ⟨Ext.refl _, _, by first | (rw [hT]; simp [updN]) | simp [updN], rfl⟩
        · intro u W' hx hd'
          have t1 := hd' 1 (mem_of (by kernel_rfl))
          have t2 := hd' 2 (mem_of (by kernel_rfl))
          clear hd'
          replace t1 : u 1 = _ := t1
          replace t2 : u 2 = _ := t2
          rw [hT u, t1, t2]
          go_wp2
          exact stepQ_mk ⟨Ext.refl _, _, by first | (rw [hT]; simp [updN, t1, t2]) | simp [updN, t1, t2], rfl⟩
        · intro u W' hx hd'
          have t3 := hd' 3 (mem_of (by kernel_rfl))
          clear hd'
          replace t3 : u 3 = _ := t3
          rw [hT u, t3]
          go_wp2_with (refine wpl_loadNd rfl _ rfl g0 (o0 + k * 10) nk.h sv0 rfl (HAT.out.ext hx) ?_)
          exact stepQ_mk ⟨Ext.refl _, _, by first | (rw [hT]; simp [updN, t3]) | simp [updN, t3], rfl⟩
        · intro u W' hx hd'
          clear hd'
          rw [hT u]
          have q0 := hx.cell y0
          have q1 := hx.cell y1
          have q2 := hx.cell y2
          have q3 := hx.cell y3
          go_wp2
          exact stepQ_mk ⟨Ext.refl _, _, by first | (rw [hT]; simp [updN]) | simp [updN], rfl⟩
        · intro u W' hx hd'
          clear hd'
          rw [hT u]
          go_wp2
          exact stepQ_mk ⟨Ext.refl _, _, by first | (rw [hT]; simp [updN]) | simp [updN], rfl⟩
        · intro u W' hx hd'
          clear hd'
          rw [hT u]
          go_wp2
          exact stepQ_mk ⟨Ext.refl _, _, by first | (rw [hT]; simp [updN]) | simp [updN], rfl⟩
        · intro u W' hx hd'
          have t4 := hd' 4 (mem_of (by kernel_rfl))
          have t5 := hd' 5 (mem_of (by kernel_rfl))
          have t6 := hd' 6 (mem_of (by kernel_rfl))
          have t7 := hd' 7 (mem_of (by kernel_rfl))
          clear hd'
          replace t4 : u 4 = _ := t4
          replace t5 : u 5 = _ := t5
          replace t6 : u 6 = _ := t6
          replace t7 : u 7 = _ := t7
          rw [hT u, t4, t5, t6, t7]
          have HCY := Lib.hid (HBS.out W' hx)
          have hsz := hx.size
          go_wp2_with (go_at_call 35; refine HCY.out.mono ?_; rintro e w6 ⟨sv6, rfl, hp6, hx6⟩)
          exact stepQ_mk ⟨hx6, _, by first | (rw [hT]; simp [updN, t4, t5, t6, t7]) | simp [updN, t4, t5, t6, t7], ⟨sv6, rfl, hp6.mono (Nat.le_trans HWB.out hsz)⟩⟩
        · intro u W' hx hd'
          have t8 := hd' 8 (mem_of (by kernel_rfl))
          clear hd'
          obtain ⟨sw8, e8, ok8⟩ := t8
          rw [hT u, e8]
          have HP6 := Lib.hid ok8
          have hsz := hx.size
          go_wp2_with (refine wpl_onePs rfl _ rfl pk.d sw8 rfl ?_; intro g6 w6 hg6 hx6 e6)
          exact stepQ_mk ⟨hx6, .slice (some ⟨g6, 0, none⟩) 1 1, by first | (rw [hT]; simp [updN, e8]) | simp [updN, e8], ⟨g6, rfl, PsB.oneAt (HP6.out.ext hx6) hg6 (by have := HWB.out; omega)⟩⟩
        · intro u W' hx hd'
          clear hd'
          rw [hT u]
          go_wp2
          exact stepQ_mk ⟨Ext.refl _, _, by first | (rw [hT]; simp [updN]) | simp [updN], rfl⟩
        · intro u W' hx hp
          obtain ⟨g6, tO, hpo⟩ := hp 9 (by omega)
          have tF : u 10 = _ := hp 10 (by omega)
          clear hp
          rw [hT u, tO, tF]
          clear hT tO tF
          have hz9 := HZ9.out.ext hx
          have hz8 := HZ88.out.ext hx
          have hXW := HXW.out.trans hx
          refine wpl_storePsS rfl _ _ rfl rfl z9 ⟨a, b, kk⟩ (.slice (some ⟨g6, 0, none⟩) 1 1) (.slice none 0 0) rfl rfl (isSl_mk _ _ _) hz9 ?_; intro w10 hz10 hk10
          have hpo2 := (hpo.keep1 hk10 h9B).head (h' := ⟨a, b, kk⟩)
          go_upto_region 11 with fail
          have hz9w := hz10
          have hz8w := hz8.keep1 hk10 h89
          repeat (first | (refine wpl_loadPs rfl _ rfl z9 0 ⟨a, b, kk⟩ (.slice (some ⟨g6, 0, none⟩) 1 1) rfl hz9w.ps ?_) | (refine wpl_storePs rfl _ _ rfl rfl z8 ⟨a, b, kk⟩ _ (.slice (some ⟨g6, 0, none⟩) 1 1) _ rfl rfl (isSl_mk _ _ _) hz8w ?_; intro w9 hz8' hk8) | go_skip | go_guarded | go_step | go_upon)
          refine ret_ps rfl rfl rfl hz8' ⟨(.slice (some ⟨g6, 0, none⟩) 1 1), by rw [HBE1.out]; rfl, by rw [HBE1.out]; exact (hpo2.keep1 hk8 h8B).mono hwB, (hXW.keep1 hk10 h9w).keep1 hk8 h8w⟩
    · have : False := by
        obtain ⟨j, hj, hjt⟩ := tkA_get (lfR s c e false) subs a b HTK.out
        exact HNO.out j hj (by omega) hjt
      exact this.elim
set_option maxRecDepth 100000 in
set_option maxHeartbeats 32000000 in
theorem best_grp (h : Hd) (t : Nd) (IH : BestOf s c e t) (hk : h.kind = 7) : BestOf s c e (.mk h [t]) := by
  intro svn a b w hn hf hsm ht hb
  have hcase := form_cases hf
  have hsub := form_sub hf
  have hL := lfR_ok s c e false
  have hab := (tkN_mon hL _ a b ht).1
  have HIH := Lib.hid (fun sv0 W (hW : Ext w W) (hok : NdCap w t sv0) => IH sv0 a b W (NdCap.ext hW hok) (hsub t (by simp)) (smallL_mem hsm.2 t (by simp)) ((tk_group h t hk a b).1 ht) hb)
  have HBE := Lib.hid (show bestN (lfR s c e false) (.mk h [t]) a b = .mk ⟨a, b, 0⟩ [bestN (lfR s c e false) t a b] from by rw [bestN, if_neg (by omega), if_pos (.inr hk), bestA, if_pos ((tk_group h t hk a b).1 ht)])
  obtain ⟨be, hbe⟩ : ∃ be, be = bestN (lfR s c e false) (.mk h [t]) a b := ⟨_, rfl⟩
  rw [← hbe] at HBE ⊢
  have HNC := Lib.hid hn
  obtain ⟨SA, sc, rfl, hcl, hNs⟩ := hn
  have HNS := Lib.hid hNs
  simp only [Nd.h] at *
  unfold srV at *
  clear hsub hNs hf ht IH hbe hsm hcase
  go_enter Tryz.func35, Tryz.ntmps35
  go_upto_region 2 with (first
    | (refine wpl_boxNd rfl _ rfl h _ rfl ?_; intro z w1 hbz hx1 ez sz)
    | (have := hz8; refine wpl_allocPs rfl rfl ?_; intro z9 w4 hz9 hx4 e9 s9)
    | (refine wpl_allocPs rfl rfl ?_; intro z8 w3 hz8 hx3 e8 s8)
    | (refine wpl_storePs rfl _ _ rfl rfl z9 ⟨a, b, 0⟩ _ (.slice none 0 0) _ rfl rfl (isSl_mk _ _ _) hz9 ?_; intro w5 hz5 hk5))
  have hV := Blk.new w1 35 #[.string s, .int .i64 c, .int .i64 e, .bool false]
  have hxv := (Ext.refl w1).alloc (.cells #[.string s, .int .i64 c, .int .i64 e, .bool false] 35)
  generalize w1.alloc (.cells #[.string s, .int .i64 c, .int .i64 e, .bool false] 35) = wv at *
  generalize w1.heap.size = gu at *
  have hxA : Ext w3 w5 := hx4.keep1 hk5 e9
  have hxB : Ext wv w5 := hx3.trans hxA
  have hxW : Ext w w5 := (hx1.trans hxv).trans hxB
  have hb5 := hbz.ext (hxv.trans hxB)
  have hV5 := hV.ext hxB
  have hz85 := hz8.ext hxA
  have y0 : w5.cell? ⟨z, 0, none⟩ = some (.int .i64 h.kind) := hb5.cell 0
  have HZ := Lib.hid (fun W (hW : Ext w5 W) => (hb5.ext hW).nd)
  have HZK := Lib.hid hb5
  have HUK := Lib.hid hV5
  have HZ8 := Lib.hid hz85
  have HZ9 := Lib.hid hz5
  have HX := Lib.hid hxW
  have hws1 := (hx1.trans hxv).size
  have hws3 := hx3.size
  have hws5 := hk5.size
  have hws4 := hx4.size
  obtain ⟨wB, hwB0, hwB1, h9B, h8B, hwB⟩ : ∃ wB, wB ≤ w5.heap.size ∧ w5.heap.size ≤ wB ∧ z9 < wB ∧ z8 < wB ∧ w.heap.size ≤ wB := ⟨w5.heap.size, Nat.le_refl _, Nat.le_refl _, by omega, by omega, by omega⟩
  have h9w : w.heap.size ≤ z9 := by omega
  have h8w : w.heap.size ≤ z8 := by omega
  have h89 : z8 ≠ z9 := by omega
  have hz9n : z ≠ z9 := by have := hV.lt; omega
  have hu9n : gu ≠ z9 := by have := hV.lt; omega
  have hx55 := Ext.refl w5
  clear hV hxv hxA hxB hxW hb5 hV5 hz85 hws1 hws3 hws5 hws4 hbz hx1 ez sz hz8 hx3 e8 s8 this hz9 hx4 e9 s9 hz5 hk5
  rw [hk] at y0
  obtain ⟨g0, o0, sv0, rfl, hat, hok⟩ := HNC.out.get 0 (by simp)
  have HAT := Lib.hid (NdAt.ext (o := o0) (by simpa using hat) HX.out)
  have HBS := Lib.hid (fun W (hW : Ext w5 W) => HIH.out sv0 W (HX.out.trans hW) hok)
  have HWB : Hid (wB ≤ w5.heap.size) := Lib.hid hwB0
  generalize hpk : bestN (lfR s c e false) t a b = pk at *
  clear hat hok hpk HNS
  replace HAT : Hid (NdAt w5 g0 o0 t.h sv0) := HAT
  clear HIH HNC
  generalize hnk : t = nk at *
  clear hnk
  go_upto_region 13 with fail
  clear y0
  have z5 : w5.cell? ⟨z, 5, none⟩ = some (.slice (some ⟨g0, o0, none⟩) 1 sc) := HZK.out.cell 5
  have y0 : w5.cell? ⟨gu, 0, none⟩ = some (.string s) := HUK.out.cell 0
  have y1 : w5.cell? ⟨gu, 1, none⟩ = some (.int .i64 c) := HUK.out.cell 1
  have y2 : w5.cell? ⟨gu, 2, none⟩ = some (.int .i64 e) := HUK.out.cell 2
  have y3 : w5.cell? ⟨gu, 3, none⟩ = some (.bool false) := HUK.out.cell 3
  refine wp_region_predz 54 10 [fun v _ => v = .pointer (some ⟨z, 5, none⟩), fun v _ => v = .slice (some ⟨g0, o0, none⟩) 1 sc, fun v _ => v = .pointer (some ⟨g0, o0, none⟩), fun v _ => v = nodeV nk.h sv0, fun v _ => v = .agg #[.string s, .int .i64 c, .int .i64 e, .bool false], fun v _ => v = .int .i64 a, fun v _ => v = .int .i64 b, fun v W' => ∃ sv, v = psV pk.d sv ∧ PsB wB W' pk sv, fun v W' => ∃ g, v = .slice (some ⟨g, 0, none⟩) 1 1 ∧ PsB wB W' (.mk ⟨0, 0, 0⟩ [pk]) (.slice (some ⟨g, 0, none⟩) 1 1), fun v _ => v = .pointer (some ⟨z9, 3, none⟩)] ((Lasts.nil.is.cons fun (v : Value) V V' hx ⟨g, h1, h2⟩ => ⟨g, h1, PsB.ext h2 hx⟩).cons fun (v : Value) V V' hx ⟨sv, h1, h2⟩ => ⟨sv, h1, PsB.ext h2 hx⟩).is.is.is.is.is.is.is (by kernel_rfl) (by kernel_rfl) (by kernel_rfl) (by kernel_rfl) (by kernel_rfl) (by kernel_rfl) (by kernel_rfl) ?_
  intro T hT
  have r6 : List.range 10 = [0, 1, 2, 3, 4, 5, 6, 7, 8, 9] := rfl
  simp only [spliceT, r6, List.map_cons, List.map_nil, List.take_succ_cons, List.take_zero, List.drop_succ_cons, List.drop_zero, List.cons_append, List.nil_append, Nat.reduceAdd] at hT
  simp only [List.take_succ_cons, List.take_zero, List.drop_succ_cons, List.drop_zero, AllS, Nat.reduceAdd]
  refine ⟨⟨?_, ?_, ?_, ?_, ?_, ?_, ?_, ?_, ?_, ?_, trivial⟩, ?_⟩
  · intro u W' hx hd'
    clear hd'
    rw [hT u]
    go_wp2
    exact stepQ_mk ⟨Ext.refl _, _, by first | (rw [hT]; simp [updN]) | simp [updN], rfl⟩
  · intro u W' hx hd'
    have t0 := hd' 0 (mem_of (by kernel_rfl))
    clear hd'
    replace t0 : u 0 = _ := t0
    rw [hT u, t0]
    have qf := hx.cell z5
    go_wp2
    exact stepQ_mk ⟨Ext.refl _, _, by first | (rw [hT]; simp [updN, t0]) | simp [updN, t0], rfl⟩
  · intro u W' hx hd'
    have t1 := hd' 1 (mem_of (by kernel_rfl))
    clear hd'
    replace t1 : u 1 = _ := t1
    rw [hT u, t1]
    go_wp2
    exact stepQ_mk ⟨Ext.refl _, _, by first | (rw [hT]; simp [updN, t1]) | simp [updN, t1], rfl⟩
  · intro u W' hx hd'
    have t2 := hd' 2 (mem_of (by kernel_rfl))
    clear hd'
    replace t2 : u 2 = _ := t2
    rw [hT u, t2]
    go_wp2_with (refine wpl_loadNd rfl _ rfl g0 (o0) nk.h sv0 rfl (HAT.out.ext hx) ?_)
    exact stepQ_mk ⟨Ext.refl _, _, by first | (rw [hT]; simp [updN, t2]) | simp [updN, t2], rfl⟩
  · intro u W' hx hd'
    clear hd'
    rw [hT u]
    have q0 := hx.cell y0
    have q1 := hx.cell y1
    have q2 := hx.cell y2
    have q3 := hx.cell y3
    go_wp2
    exact stepQ_mk ⟨Ext.refl _, _, by first | (rw [hT]; simp [updN]) | simp [updN], rfl⟩
  · intro u W' hx hd'
    clear hd'
    rw [hT u]
    go_wp2
    exact stepQ_mk ⟨Ext.refl _, _, by first | (rw [hT]; simp [updN]) | simp [updN], rfl⟩
  · intro u W' hx hd'
    clear hd'
    rw [hT u]
    go_wp2
    exact stepQ_mk ⟨Ext.refl _, _, by first | (rw [hT]; simp [updN]) | simp [updN], rfl⟩
  · intro u W' hx hd'
    have t3 := hd' 3 (mem_of (by kernel_rfl))
    have t4 := hd' 4 (mem_of (by kernel_rfl))
    have t5 := hd' 5 (mem_of (by kernel_rfl))
    have t6 := hd' 6 (mem_of (by kernel_rfl))
    clear hd'
    replace t3 : u 3 = _ := t3
    replace t4 : u 4 = _ := t4
    replace t5 : u 5 = _ := t5
    replace t6 : u 6 = _ := t6
    rw [hT u, t3, t4, t5, t6]
    have HCY := Lib.hid (HBS.out W' hx)
    have hsz := hx.size
    go_wp2_with (go_at_call 35; refine HCY.out.mono ?_; rintro e w6 ⟨sv6, rfl, hp6, hx6⟩)
    exact stepQ_mk ⟨hx6, _, by first | (rw [hT]; simp [updN, t3, t4, t5, t6]) | simp [updN, t3, t4, t5, t6], ⟨sv6, rfl, hp6.mono (Nat.le_trans HWB.out hsz)⟩⟩
  · intro u W' hx hd'
    have t7 := hd' 7 (mem_of (by kernel_rfl))
    clear hd'
    obtain ⟨sw7, e7, ok7⟩ := t7
    rw [hT u, e7]
    have HP6 := Lib.hid ok7
    have hsz := hx.size
    go_wp2_with (refine wpl_onePs rfl _ rfl pk.d sw7 rfl ?_; intro g6 w6 hg6 hx6 e6)
    exact stepQ_mk ⟨hx6, .slice (some ⟨g6, 0, none⟩) 1 1, by first | (rw [hT]; simp [updN, e7]) | simp [updN, e7], ⟨g6, rfl, PsB.oneAt (HP6.out.ext hx6) hg6 (by have := HWB.out; omega)⟩⟩
  · intro u W' hx hd'
    clear hd'
    rw [hT u]
    go_wp2
    exact stepQ_mk ⟨Ext.refl _, _, by first | (rw [hT]; simp [updN]) | simp [updN], rfl⟩
  · intro u W' hx hp
    obtain ⟨g6, tO, hpo⟩ := hp 8 (by omega)
    have tF : u 9 = _ := hp 9 (by omega)
    clear hp
    rw [hT u, tO, tF]
    clear hT tO tF
    have hz9 := HZ9.out.ext hx
    have hz8 := HZ8.out.ext hx
    have hXW := HX.out.trans hx
    refine wpl_storePsS rfl _ _ rfl rfl z9 ⟨a, b, 0⟩ (.slice (some ⟨g6, 0, none⟩) 1 1) (.slice none 0 0) rfl rfl (isSl_mk _ _ _) hz9 ?_; intro w10 hz10 hk10
    have hpo2 := (hpo.keep1 hk10 h9B).head (h' := ⟨a, b, 0⟩)
    go_upto_region 23 with fail
    have hz9w := hz10
    have hz8w := hz8.keep1 hk10 h89
    repeat (first | (refine wpl_loadPs rfl _ rfl z9 0 ⟨a, b, 0⟩ (.slice (some ⟨g6, 0, none⟩) 1 1) rfl hz9w.ps ?_) | (refine wpl_storePs rfl _ _ rfl rfl z8 ⟨a, b, 0⟩ _ (.slice (some ⟨g6, 0, none⟩) 1 1) _ rfl rfl (isSl_mk _ _ _) hz8w ?_; intro w9 hz8' hk8) | go_skip | go_guarded | go_step | go_upon)
    refine ret_ps rfl rfl rfl hz8' ⟨(.slice (some ⟨g6, 0, none⟩) 1 1), by rw [HBE.out]; rfl, by rw [HBE.out]; exact (hpo2.keep1 hk8 h8B).mono hwB, (hXW.keep1 hk10 h9w).keep1 hk8 h8w⟩
set_option maxRecDepth 100000 in
set_option maxHeartbeats 32000000 in
theorem best_leaf (h : Hd) (subs : List Nd) (hk : h.kind ≤ 4) : BestOf s c e (.mk h subs) := by
  intro svn a b w hn hf hsm ht hb
  have hcase := form_cases hf
  have hsub := form_sub hf
  have hL := lfR_ok s c e false
  have hab := (tkN_mon hL _ a b ht).1
  have HBE := Lib.hid (show bestN (lfR s c e false) (.mk h subs) a b = .mk ⟨a, b, 0⟩ [] from by rw [bestN, if_neg (by omega), if_neg (by omega), if_neg (by omega), if_neg (by omega)])
  obtain ⟨be, hbe⟩ : ∃ be, be = bestN (lfR s c e false) (.mk h subs) a b := ⟨_, rfl⟩
  rw [← hbe] at HBE ⊢
  have HNC := Lib.hid hn
  obtain ⟨SA, sc, rfl, hcl, hNs⟩ := hn
  have HNS := Lib.hid hNs
  simp only [Nd.h] at *
  unfold srV at *
  clear hsub hNs hf ht hbe hsm hcase
  go_enter Tryz.func35, Tryz.ntmps35
  go_upto_region 2 with (first
    | (refine wpl_boxNd rfl _ rfl h _ rfl ?_; intro z w1 hbz hx1 ez sz)
    | (have := hz8; refine wpl_allocPs rfl rfl ?_; intro z9 w4 hz9 hx4 e9 s9)
    | (refine wpl_allocPs rfl rfl ?_; intro z8 w3 hz8 hx3 e8 s8)
    | (refine wpl_storePs rfl _ _ rfl rfl z9 ⟨a, b, 0⟩ _ (.slice none 0 0) _ rfl rfl (isSl_mk _ _ _) hz9 ?_; intro w5 hz5 hk5))
  have hV := Blk.new w1 35 #[.string s, .int .i64 c, .int .i64 e, .bool false]
  have hxv := (Ext.refl w1).alloc (.cells #[.string s, .int .i64 c, .int .i64 e, .bool false] 35)
  generalize w1.alloc (.cells #[.string s, .int .i64 c, .int .i64 e, .bool false] 35) = wv at *
  generalize w1.heap.size = gu at *
  have hxA : Ext w3 w5 := hx4.keep1 hk5 e9
  have hxB : Ext wv w5 := hx3.trans hxA
  have hxW : Ext w w5 := (hx1.trans hxv).trans hxB
  have hb5 := hbz.ext (hxv.trans hxB)
  have hV5 := hV.ext hxB
  have hz85 := hz8.ext hxA
  have y0 : w5.cell? ⟨z, 0, none⟩ = some (.int .i64 h.kind) := hb5.cell 0
  have HZ := Lib.hid (fun W (hW : Ext w5 W) => (hb5.ext hW).nd)
  have HZK := Lib.hid hb5
  have HUK := Lib.hid hV5
  have HZ8 := Lib.hid hz85
  have HZ9 := Lib.hid hz5
  have HX := Lib.hid hxW
  have hws1 := (hx1.trans hxv).size
  have hws3 := hx3.size
  have hws5 := hk5.size
  have hws4 := hx4.size
  obtain ⟨wB, hwB0, hwB1, h9B, h8B, hwB⟩ : ∃ wB, wB ≤ w5.heap.size ∧ w5.heap.size ≤ wB ∧ z9 < wB ∧ z8 < wB ∧ w.heap.size ≤ wB := ⟨w5.heap.size, Nat.le_refl _, Nat.le_refl _, by omega, by omega, by omega⟩
  have h9w : w.heap.size ≤ z9 := by omega
  have h8w : w.heap.size ≤ z8 := by omega
  have h89 : z8 ≠ z9 := by omega
  have hz9n : z ≠ z9 := by have := hV.lt; omega
  have hu9n : gu ≠ z9 := by have := hV.lt; omega
  have hx55 := Ext.refl w5
  clear hV hxv hxA hxB hxW hb5 hV5 hz85 hws1 hws3 hws5 hws4 hbz hx1 ez sz hz8 hx3 e8 s8 this hz9 hx4 e9 s9 hz5 hk5
  have q6 : (h.kind == 6) = false := by rw [beq_eq_false_iff_ne]; omega
  have q7 : (h.kind == 7) = false := by rw [beq_eq_false_iff_ne]; omega
  have q5 : (h.kind == 5) = false := by rw [beq_eq_false_iff_ne]; omega
  have q8 : (h.kind == 8) = false := by rw [beq_eq_false_iff_ne]; omega
  clear hk
  generalize h.kind = kd at *
  go_upto_region 23 with fail
  have hz9w := HZ9.out
  have hz8w := HZ8.out
  repeat (first | (refine wpl_loadPs rfl _ rfl z9 0 ⟨a, b, 0⟩ (.slice none 0 0) rfl hz9w.ps ?_) | (refine wpl_storePs rfl _ _ rfl rfl z8 ⟨a, b, 0⟩ _ (.slice none 0 0) _ rfl rfl (isSl_mk _ _ _) hz8w ?_; intro w9 hz8' hk8) | go_skip | go_guarded | go_step | go_upon)
  refine ret_ps rfl rfl rfl hz8' ⟨(.slice none 0 0), by rw [HBE.out]; rfl, by rw [HBE.out]; exact ((PsB.nil wB w5 ⟨a, b, 0⟩ none 0).keep1 hk8 h8B).mono hwB, HX.out.keep1 hk8 h8w⟩
end

end Go.Proofs.YtgfknlkpdiejgaaGreatDoor

namespace Go.Proofs.YtgfknlkpdiejgaaGreatDoor
open Go Go.RowKit


theorem topN_congr {Q Q' : Nat → Prop} : ∀ h, (∀ k, k ≤ h → (Q k ↔ Q' k)) → topN Q h = topN Q' h
  | 0, _ => rfl
  | h + 1, hq => by
    have e := topN_congr h (fun k hk => hq k (by omega))
    have e1 := hq (h + 1) (Nat.le_refl _)
    rw [topN, topN, e]
    by_cases h1 : Q (h + 1)
    · rw [if_pos h1, if_pos (e1.1 h1)]
    · rw [if_neg h1, if_neg (fun x => h1 (e1.2 x))]
section
variable {ops : Array Oper} {rest : List Oper} {o : Oper} {a : Act} {w : World} {Q : Exit → Act → World → Prop}
/-- A list literal of one parse, with its block. -/
theorem wpl_onePsB (hgd : o.guard = none) (x : Operand) (ho : o.op = .buildSlice 81 1 #[(0, x)]) (h : Pd) (sv : Value) (hx : a.eval x = psV h sv)
    (hK : ∀ g w1, Blk w1 g 83 (psA h sv) → Ext w w1 → w.heap.size ≤ g → wpList Tryz.prog ops Q rest (a.put o.dst (.slice (some ⟨g, 0, none⟩) 1 1)) w1) : wpList Tryz.prog ops Q (o :: rest) a w := by
  obtain ⟨i, hi, hz⟩ := Option.map_eq_some_iff.1 zero_ps
  have hs : i.size = 4 := by have := info_ps; rw [hi] at this; simpa using this
  refine wpList_buildSlice hgd 81 83 1 _ ho (psA h sv) i _ Tryz.underlying81 hi hz (by rw [hs]; decide) (by rw [hs]; decide) ?_ (hK _ _ (Blk.new w _ _) ((Ext.refl w).alloc _) (Nat.le_refl _))
  rw [hs]
  have hf := Great.fill_whole (s := 4) (by decide) [psV h sv] ((Array.range (1 * 4)).map ((psV ⟨0, 0, 0⟩ (.slice none 0 0)).cells[· % (psV ⟨0, 0, 0⟩ (.slice none 0 0)).cells.size]!)) (fun v hv => by simp only [List.mem_singleton] at hv; subst hv; rfl) (by simp)
  have e : (List.map (fun x => (x.2, x.1)) ([psV h sv].zipIdx 0)) = (Array.map (fun x => (x.1, a.eval x.2)) #[(0, x)]).toList := by simp [hx]
  rw [e] at hf
  rw [hf]
  simp [psV_eq, Value.cells]
end
section
variable {s : ByteArray} {c e : Int}
theorem tk_seqN (l : List Nd) (a b : Int) (h0 : 0 ≤ a) (hb : b ≤ s.size) : tkN (lfR s c e false) (seqN l) a b ↔ tkS (lfR s c e false) l a b := by
  match l with
  | [] =>
    have e1 : (hdV 1).kind = 1 := rfl
    show tkN (lfR s c e false) (.mk (hdV 1) []) a b ↔ _
    rw [tkN, if_neg (by rw [e1]; decide), if_neg (by rw [e1]; decide), if_neg (by rw [e1]; decide), tkS]
    unfold lfR
    rw [if_neg (by rw [e1]; decide), if_neg (by rw [e1]; decide), if_neg (by rw [e1]; decide)]
    simp only [Bool.and_eq_true, decide_eq_true_eq]
    omega
  | [x] =>
    show tkN (lfR s c e false) x a b ↔ _
    rw [tkS]
    constructor
    · exact fun h => ⟨b, h, rfl⟩
    · rintro ⟨c0, h1, h2⟩
      have h2 : c0 = b := h2
      exact h2 ▸ h1
  | x :: y :: r => exact tk_seq (hdV 5) (x :: y :: r) rfl a b
theorem cut_seqN {R : Rl} (l : List Nd) (least a b : Nat) (hb : b ≤ s.size) : cutK R (tkN (lfR s c e false) (seqN l)) least a b = cutK R (tkS (lfR s c e false) l) least a b := by
  unfold cutK
  refine topN_congr b fun k hk => ?_
  rw [tk_seqN l k b (by omega) (by omega)]
set_option maxRecDepth 100000 in
set_option maxHeartbeats 32000000 in
theorem best_seq (h : Hd) (subs : List Nd) (IH : ∀ t ∈ subs, BestOf s c e t) (hs : s.size ≤ 1000000) (hk : h.kind = 5) : BestOf s c e (.mk h subs) := by
  intro svn a b w hn hf hsm ht hb
  have hcase := form_cases hf
  have hsub := form_sub hf
  have hL := lfR_ok s c e false
  have hab := (tkN_mon hL _ a b ht).1
  have HIH := Lib.hid (fun (i : Nat) (hi : i < subs.length) sv0 W (x y : Nat) (hy : y ≤ s.size) (hW : Ext w W) (hok : NdCap w subs[i] sv0) (h1 : tkN (lfR s c e false) subs[i] x y) => IH subs[i] (List.getElem_mem hi) sv0 x y W (NdCap.ext hW hok) (hsub _ (List.getElem_mem hi)) (smallL_mem hsm.2 _ (List.getElem_mem hi)) h1 hy)
  have HTK : Hid (tkS (lfR s c e false) (subs.drop 0) a b) := Lib.hid (by rw [List.drop_zero]; exact (tk_seq h subs hk a b).1 ht)
  have HBE := Lib.hid (show bestN (lfR s c e false) (.mk h subs) a b = .mk ⟨a, b, 0⟩ (bestS (lfR s c e false) subs a b) from by rw [bestN, if_neg (by omega), if_neg (by omega), if_pos hk])
  have HSB := Lib.hid hsub
  have HSM := Lib.hid hsm.2
  have hlen : subs.length ≤ 1000000 := hsm.1
  obtain ⟨be, hbe⟩ : ∃ be, be = bestN (lfR s c e false) (.mk h subs) a b := ⟨_, rfl⟩
  rw [← hbe] at HBE ⊢
  have HNC := Lib.hid hn
  obtain ⟨SA, sc, rfl, hcl, hNs⟩ := hn
  have HNS := Lib.hid hNs
  simp only [Nd.h] at *
  unfold srV at *
  clear hsub hNs hf ht IH hbe hsm hcase
  go_enter Tryz.func35, Tryz.ntmps35
  go_upto_region 2 with (first
    | (refine wpl_boxNd rfl _ rfl h _ rfl ?_; intro z w1 hbz hx1 ez sz)
    | (have := hz8; refine wpl_allocPs rfl rfl ?_; intro z9 w4 hz9 hx4 e9 s9)
    | (refine wpl_allocPs rfl rfl ?_; intro z8 w3 hz8 hx3 e8 s8)
    | (refine wpl_storePs rfl _ _ rfl rfl z9 ⟨a, b, 0⟩ _ (.slice none 0 0) _ rfl rfl (isSl_mk _ _ _) hz9 ?_; intro w5 hz5 hk5))
  have hV := Blk.new w1 35 #[.string s, .int .i64 c, .int .i64 e, .bool false]
  have hxv := (Ext.refl w1).alloc (.cells #[.string s, .int .i64 c, .int .i64 e, .bool false] 35)
  generalize w1.alloc (.cells #[.string s, .int .i64 c, .int .i64 e, .bool false] 35) = wv at *
  generalize w1.heap.size = gu at *
  have hxA : Ext w3 w5 := hx4.keep1 hk5 e9
  have hxB : Ext wv w5 := hx3.trans hxA
  have hxW : Ext w w5 := (hx1.trans hxv).trans hxB
  have hb5 := hbz.ext (hxv.trans hxB)
  have hV5 := hV.ext hxB
  have hz85 := hz8.ext hxA
  have y0 : w5.cell? ⟨z, 0, none⟩ = some (.int .i64 h.kind) := hb5.cell 0
  have HZ := Lib.hid (fun W (hW : Ext w5 W) => (hb5.ext hW).nd)
  have HZK := Lib.hid hb5
  have HUK := Lib.hid hV5
  have HZ8 := Lib.hid hz85
  have HZ9 := Lib.hid hz5
  have HX := Lib.hid hxW
  have hws1 := (hx1.trans hxv).size
  have hws3 := hx3.size
  have hws5 := hk5.size
  have hws4 := hx4.size
  obtain ⟨wB, hwB0, hwB1, h9B, h8B, hwB⟩ : ∃ wB, wB ≤ w5.heap.size ∧ w5.heap.size ≤ wB ∧ z9 < wB ∧ z8 < wB ∧ w.heap.size ≤ wB := ⟨w5.heap.size, Nat.le_refl _, Nat.le_refl _, by omega, by omega, by omega⟩
  have h9w : w.heap.size ≤ z9 := by omega
  have h8w : w.heap.size ≤ z8 := by omega
  have h89 : z8 ≠ z9 := by omega
  have hz9n : z ≠ z9 := by have := hV.lt; omega
  have hu9n : gu ≠ z9 := by have := hV.lt; omega
  have hx55 := Ext.refl w5
  clear hV hxv hxA hxB hxW hb5 hV5 hz85 hws1 hws3 hws5 hws4 hbz hx1 ez sz hz8 hx3 e8 s8 this hz9 hx4 e9 s9 hz5 hk5
  rw [hk] at y0
  go_upto_region 16 with fail
  clear y0
  have hL0 : LstPs w5 wB wB (.slice none 0 0) [] := LstPs.nil _ _ _
  have hk55 : Keeps (· = z9) w5 w5 := Keeps.refl _ _
  go_loopw [2, 12, 13] (fun fv iv _ wr => ∃ (i ak : Nat) (v : Value) (l : List (Ps × Value)), i ≤ subs.length ∧ iv = .int .i64 i ∧ fv = .int .i64 ak ∧ ak ≤ b ∧ Hid (l.length = i) ∧ Hid (tkS (lfR s c e false) (subs.drop i) ak b) ∧ Hid (l.map (·.1) ++ bestS (lfR s c e false) (subs.drop i) ak b = bestS (lfR s c e false) subs a b) ∧ LstPs wr wB wB v l ∧ Blk wr z9 83 (psA ⟨a, b, 0⟩ v) ∧ Keeps (· = z9) w5 wr) (fun _ iv _ _ => subs.length - (intOf iv).toNat)
  case atStart => exact ⟨0, a, _, [], Nat.zero_le _, rfl, rfl, by omega, Lib.hid rfl, HTK, Lib.hid (by rw [List.drop_zero]; rfl), hL0, HZ9.out, hk55⟩
  case round =>
    clear hL0 hk55 hx55
    obtain ⟨i, ak, v, l, hil, rfl, rfl, hakb, HLN, HTKi, HMAP, hL, hB, hK⟩ := hrel
    have hll2 : l.length ≤ 1000000000 := by have := HLN.out; omega
    have HLL := Lib.hid hL
    have HBB := Lib.hid hB
    have HKR := Lib.hid hK
    have hwr : wB ≤ wr.heap.size := by have := hK.size; omega
    have hxr : Ext w wr := HX.out.keep1 hK h9w
    have HXR := Lib.hid hxr
    have z5 : wr.cell? ⟨z, 5, none⟩ = some (.slice SA subs.length sc) := (HZK.out.keep1 hK hz9n).cell 5
    have hU := HUK.out.keep1 hK hu9n
    have y0 : wr.cell? ⟨gu, 0, none⟩ = some (.string s) := hU.cell 0
    have y1 : wr.cell? ⟨gu, 1, none⟩ = some (.int .i64 c) := hU.cell 1
    have y2 : wr.cell? ⟨gu, 2, none⟩ = some (.int .i64 e) := hU.cell 2
    have y3 : wr.cell? ⟨gu, 3, none⟩ = some (.bool false) := hU.cell 3
    have HUR := Lib.hid hU
    clear hL hB hK hxr hU
    by_cases hlt : i < subs.length
    · have q9 : (i : Int) < (subs.length : Int) := by omega
      obtain ⟨g0, o0, sv0, rfl, hat, hok⟩ := HNC.out.get i hlt
      have HATW := Lib.hid (fun W (hW : Ext w W) => NdAt.ext hat hW)
      have hdr : subs.drop i = subs[i] :: subs.drop (i + 1) := List.drop_eq_getElem_cons hlt
      have htk := HTKi.out
      have hmp := HMAP.out
      rw [hdr] at htk hmp
      rw [tkS] at htk
      rw [bestS] at hmp
      have hcs := cutK_spec (R := tkN (lfR s c e false) subs[i]) (S := tkS (lfR s c e false) (subs.drop (i + 1))) (tkS_mon hL _) (least := ak) (a := ak) (b := b) (by obtain ⟨c0, h1, h2⟩ := htk; exact ⟨c0, ((tkN_mon hL _) _ _ h1).1, h1, h2⟩)
      have heq := cut_seqN (c := c) (e := e) (R := tkN (lfR s c e false) subs[i]) (subs.drop (i + 1)) ak ak b hb
      have hex : ∃ k : Int, (ak : Int) ≤ k ∧ tkN (lfR s c e false) subs[i] ak k ∧ tkN (lfR s c e false) (seqN (subs.drop (i + 1))) k b := by
        obtain ⟨c0, h1, h2⟩ := htk
        have h3 := ((tkN_mon hL _) _ _ h1).1
        have h4 := ((tkS_mon hL _) _ _ h2).1
        exact ⟨c0, h3, h1, (tk_seqN _ c0 b (by omega) (by omega)).2 h2⟩
      obtain ⟨AR, hAR⟩ : ∃ AR : Option Addr, AR = if sc = i + 1 then some ⟨g0, o0, none⟩ else some ⟨g0, o0 + (i + 1) * 10, none⟩ := ⟨_, rfl⟩
      have HAR := Lib.hid hAR
      have hrest : NdOk w (.mk (hdV 0) (subs.drop (i + 1))) (.slice AR (subs.length - (i + 1)) (sc - (i + 1))) := by
        unfold NdOk
        refine ⟨AR, sc - (i + 1), by rw [List.length_drop], NdsOk.of (fun j hj => ?_)⟩
        rw [List.length_drop] at hj
        have hsc : ¬ sc = i + 1 := by omega
        rw [hAR, if_neg hsc]
        obtain ⟨g', o', sv', e1, e2, e3⟩ := HNS.out.get (i + 1 + j) (by omega)
        injection e1 with e1
        injection e1 with e1 e4
        subst e1 e4
        refine ⟨g0, o0 + (i + 1) * 10, sv', rfl, fun i2 hi2 => ?_, ?_⟩
        · have := e2 i2 hi2
          rw [show o0 + (0 + (i + 1 + j)) * 10 = o0 + (i + 1) * 10 + (0 + j) * 10 by omega] at this
          rw [List.getElem_drop]
          exact this
        · rw [List.getElem_drop]; exact e3.ok
      have hfu : formB (seqN (subs.drop (i + 1))) = true := formB_seq fun n hn => HSB.out n (List.mem_of_mem_drop hn)
      have hsu : smallN (seqN (subs.drop (i + 1))) := small_seq (by rw [List.length_drop]; omega) fun n hn => smallL_mem HSM.out n (List.mem_of_mem_drop hn)
      have HSQ := Lib.hid (fun W (hW : Ext wr W) => rseq22_any (subs.drop (i + 1)) AR _ _ W (NdOk.ext (HXR.out.trans hW) _ _ hrest) (by rw [List.length_drop]; omega))
      have HCU := Lib.hid (fun W svu (hW : Ext wr W) (hu : NdOk W (seqN (subs.drop (i + 1))) svu) => rcut_any (s := s) (c := c) (e := e) subs[i] (seqN (subs.drop (i + 1))) sv0 svu ak b ak W hs (by omega) hb (HSB.out _ (List.getElem_mem hlt)) (smallL_mem HSM.out _ (List.getElem_mem hlt)) (NdOk.ext (HXR.out.trans hW) _ _ hok.ok) hfu hsu hu hex)
      rw [heq] at HCU
      obtain ⟨kn, hkn⟩ : ∃ kn, kn = cutK (tkN (lfR s c e false) subs[i]) (tkS (lfR s c e false) (subs.drop (i + 1))) ak ak b := ⟨_, rfl⟩
      rw [← hkn] at hcs hmp HCU
      clear hkn heq
      obtain ⟨hc1, hc2, hc3, hc4, _⟩ := hcs
      have HTK2 := Lib.hid hc3
      have HMP2 := Lib.hid hmp
      have HBS0 := Lib.hid (fun W (hW : Ext w W) => HIH.out i hlt sv0 W ak kn (by omega) hW hok hc2)
      generalize bestN (lfR s c e false) subs[i] ak kn = pk at *
      generalize subs[i] = nk at *
      generalize seqN (subs.drop (i + 1)) = un at *
      unfold srV RetOk at *
      obtain ⟨kk, hkk⟩ : ∃ kk : Int, kk = (kn : Int) := ⟨_, rfl⟩
      rw [← hkk] at HCU HBS0
      have HKK := Lib.hid hkk
      have HAT := Lib.hid (HATW.out wr HXR.out)
      clear hAR hrest hfu hsu hex hc2 hc3 hmp htk hdr hat hok hL hkk
      go_upto_region 18 with fail
      go_cut [13] (fun v wx => v = .int .i64 kk ∧ Ext wr wx)
      case first =>
        refine wp_region_predz 73 16 [fun v _ => v = .pointer (some ⟨z, 5, none⟩), fun v _ => v = .slice (some ⟨g0, o0, none⟩) subs.length sc, fun v _ => v = .int .i64 i, fun v _ => v = .pointer (some ⟨g0, o0 + i * 10, none⟩), fun v _ => v = nodeV nk.h sv0, fun v _ => v = .pointer (some ⟨z, 5, none⟩), fun v _ => v = .slice (some ⟨g0, o0, none⟩) subs.length sc, fun v _ => v = .int .i64 i, fun v _ => v = .int .i64 ((i + 1 : Nat) : Int), fun v _ => v = .slice AR (subs.length - (i + 1)) (sc - (i + 1)), fun v W' => ∃ sn, v = nodeV un.h sn ∧ NdOk W' un sn, fun v _ => v = .agg #[.string s, .int .i64 c, .int .i64 e, .bool false], fun v _ => v = .int .i64 ak, fun v _ => v = .int .i64 b, fun v _ => v = .int .i64 ak, fun v _ => v = .int .i64 kk] (Lasts.nil.is.is.is.is.is.cons fun (v : Value) V V' hx ⟨sn, h1, h2⟩ => ⟨sn, h1, NdOk.ext hx _ _ h2⟩).is.is.is.is.is.is.is.is.is.is (by kernel_rfl) (by kernel_rfl) (by kernel_rfl) (by kernel_rfl) (by kernel_rfl) (by kernel_rfl) (by kernel_rfl) ?_
        intro T hT
        have r6 : List.range 16 = [0, 1, 2, 3, 4, 5, 6, 7, 8, 9, 10, 11, 12, 13, 14, 15] := rfl
        simp only [spliceT, r6, List.map_cons, List.map_nil, List.take_succ_cons, List.take_zero, List.drop_succ_cons, List.drop_zero, List.cons_append, List.nil_append, Nat.reduceAdd] at hT
        simp only [List.take_succ_cons, List.take_zero, List.drop_succ_cons, List.drop_zero, AllS, Nat.reduceAdd]
        refine ⟨⟨?_, ?_, ?_, ?_, ?_, ?_, ?_, ?_, ?_, ?_, ?_, ?_, ?_, ?_, ?_, ?_, trivial⟩, ?_⟩
        · intro u W' hx hd'
          clear hd'
          rw [hT u]
          go_wp2
          exact stepQ_mk ⟨Ext.refl _, _, by first | (rw [hT]; simp [updN]) | simp [updN], rfl⟩
        · intro u W' hx hd'
          have t0 := hd' 0 (mem_of (by kernel_rfl))
          clear hd'
          replace t0 : u 0 = _ := t0
          rw [hT u, t0]
          have qf := hx.cell z5
          go_wp2
          exact stepQ_mk ⟨Ext.refl _, _, by first | (rw [hT]; simp [updN, t0]) | simp [updN, t0], rfl⟩
        · intro u W' hx hd'
          clear hd'
          rw [hT u]
          go_wp2
          exact stepQ_mk ⟨Ext.refl _, _, by first | (rw [hT]; simp [updN]) | simp [updN], rfl⟩
        · intro u W' hx hd'
          have t1 := hd' 1 (mem_of (by kernel_rfl))
          have t2 := hd' 2 (mem_of (by kernel_rfl))
          clear hd'
          replace t1 : u 1 = _ := t1
          replace t2 : u 2 = _ := t2
          rw [hT u, t1, t2]
          go_wp2
          exact stepQ_mk ⟨Ext.refl _, _, by first | (rw [hT]; simp [updN, t1, t2]) | simp [updN, t1, t2], rfl⟩
        · intro u W' hx hd'
          have t3 := hd' 3 (mem_of (by kernel_rfl))
          clear hd'
          replace t3 : u 3 = _ := t3
          rw [hT u, t3]
          go_wp2_with (refine wpl_loadNd rfl _ rfl g0 (o0 + i * 10) nk.h sv0 rfl (HAT.out.ext hx) ?_)
          exact stepQ_mk ⟨Ext.refl _, _, by first | (rw [hT]; simp [updN, t3]) | simp [updN, t3], rfl⟩
        · intro u W' hx hd'
          clear hd'
          rw [hT u]
          go_wp2
          exact stepQ_mk ⟨Ext.refl _, _, by first | (rw [hT]; simp [updN]) | simp [updN], rfl⟩
        · intro u W' hx hd'
          have t5 := hd' 5 (mem_of (by kernel_rfl))
          clear hd'
          replace t5 : u 5 = _ := t5
          rw [hT u, t5]
          have qf := hx.cell z5
          go_wp2
          exact stepQ_mk ⟨Ext.refl _, _, by first | (rw [hT]; simp [updN, t5]) | simp [updN, t5], rfl⟩
        · intro u W' hx hd'
          clear hd'
          rw [hT u]
          go_wp2
          exact stepQ_mk ⟨Ext.refl _, _, by first | (rw [hT]; simp [updN]) | simp [updN], rfl⟩
        · intro u W' hx hd'
          have t7 := hd' 7 (mem_of (by kernel_rfl))
          clear hd'
          replace t7 : u 7 = _ := t7
          rw [hT u, t7]
          have qw : IntKind.i64.wrap ((i : Int) + 1) = ((i + 1 : Nat) : Int) := by rw [IntKind.wrap_i64]; omega
          go_wp2
          exact stepQ_mk ⟨Ext.refl _, _, by first | (rw [hT]; simp [updN, t7]) | simp [updN, t7], rfl⟩
        · intro u W' hx hd'
          have t6 := hd' 6 (mem_of (by kernel_rfl))
          have t8 := hd' 8 (mem_of (by kernel_rfl))
          clear hd'
          replace t6 : u 6 = _ := t6
          replace t8 : u 8 = _ := t8
          rw [hT u, t6, t8]
          by_cases hsc : sc = i + 1
          · have eA : AR = some ⟨g0, o0, none⟩ := by rw [HAR.out, if_pos hsc]
            have eB : Value.slice AR (subs.length - (i + 1)) (sc - (i + 1)) = .slice (some ⟨g0, o0, none⟩) 0 0 := by rw [eA, hsc, show subs.length - (i + 1) = 0 by omega, Nat.sub_self]
            have EB := Lib.hid eB
            have hl1 : subs.length = i + 1 := by omega
            clear eA eB
            go_wp2
            exact stepQ_mk ⟨Ext.refl _, .slice (some ⟨g0, o0, none⟩) 0 0, by rw [hT]; simp [updN, t6, t8], by show _ = Value.slice AR _ _; rw [EB.out]⟩
          · have eA : AR = some ⟨g0, o0 + (i + 1) * 10, none⟩ := by rw [HAR.out, if_neg hsc]
            have EA := Lib.hid eA
            have hkc : i + 1 ≤ sc := by omega
            clear eA
            go_wp2
            exact stepQ_mk ⟨Ext.refl _, .slice (some ⟨g0, o0 + (i + 1) * 10, none⟩) (subs.length - (i + 1)) (sc - (i + 1)), by rw [hT]; simp [updN, t6, t8], by show _ = Value.slice AR _ _; rw [EA.out]⟩
        · intro u W' hx hd'
          have t9 := hd' 9 (mem_of (by kernel_rfl))
          clear hd'
          replace t9 : u 9 = _ := t9
          rw [hT u, t9]
          have HCY := Lib.hid (HSQ.out W' hx)
          go_wp2_with (go_at_call 64; refine HCY.out.mono ?_; rintro e w6 ⟨sv6, rfl, hp6, hx6⟩)
          exact stepQ_mk ⟨hx6, _, by first | (rw [hT]; simp [updN, t9]) | simp [updN, t9], ⟨sv6, rfl, hp6⟩⟩
        · intro u W' hx hd'
          clear hd'
          rw [hT u]
          have q0 := hx.cell y0
          have q1 := hx.cell y1
          have q2 := hx.cell y2
          have q3 := hx.cell y3
          go_wp2
          exact stepQ_mk ⟨Ext.refl _, _, by first | (rw [hT]; simp [updN]) | simp [updN], rfl⟩
        · intro u W' hx hd'
          clear hd'
          rw [hT u]
          go_wp2
          exact stepQ_mk ⟨Ext.refl _, _, by first | (rw [hT]; simp [updN]) | simp [updN], rfl⟩
        · intro u W' hx hd'
          clear hd'
          rw [hT u]
          go_wp2
          exact stepQ_mk ⟨Ext.refl _, _, by first | (rw [hT]; simp [updN]) | simp [updN], rfl⟩
        · intro u W' hx hd'
          clear hd'
          rw [hT u]
          go_wp2
          exact stepQ_mk ⟨Ext.refl _, _, by first | (rw [hT]; simp [updN]) | simp [updN], rfl⟩
        · intro u W' hx hd'
          have t4 := hd' 4 (mem_of (by kernel_rfl))
          have t10 := hd' 10 (mem_of (by kernel_rfl))
          have t11 := hd' 11 (mem_of (by kernel_rfl))
          have t12 := hd' 12 (mem_of (by kernel_rfl))
          have t13 := hd' 13 (mem_of (by kernel_rfl))
          have t14 := hd' 14 (mem_of (by kernel_rfl))
          clear hd'
          replace t4 : u 4 = _ := t4
          obtain ⟨sw10, e10, ok10⟩ := t10
          replace t11 : u 11 = _ := t11
          replace t12 : u 12 = _ := t12
          replace t13 : u 13 = _ := t13
          replace t14 : u 14 = _ := t14
          rw [hT u, t4, e10, t11, t12, t13, t14]
          have HCY := Lib.hid (HCU.out W' sw10 hx ok10)
          go_wp2_with (go_at_call 63; refine HCY.out.mono ?_; rintro e w6 ⟨rfl, hx6⟩)
          exact stepQ_mk ⟨hx6, _, by first | (rw [hT]; simp [updN, t4, e10, t11, t12, t13, t14]) | simp [updN, t4, e10, t11, t12, t13, t14], rfl⟩
        · intro u W' hx hp
          have tE : u 15 = _ := hp 15 (by omega)
          clear hp
          rw [hT u, tE]
          clear hT tE
          have HXX := Lib.hid hx
          clear hx
          go_wp2
          go_meet
          case rel => exact ⟨rfl, HXX.out⟩
      obtain ⟨rfl, hx7⟩ := hcut
      obtain ⟨w7, hw7⟩ : ∃ w, w = wc := ⟨_, rfl⟩
      subst hw7
      have HX7 := Lib.hid hx7
      have hXW7 := HXR.out.trans hx7
      have HXW := Lib.hid hXW7
      have hL7 := HLL.out.ext hx7
      have hB7 := HBB.out.ext hx7
      have hs7 := hx7.size
      have k5 : ∀ W, Ext w7 W → W.cell? ⟨z9, 3, none⟩ = some v := fun W hW => (hB7.ext hW).cell 3
      have k7 : ∀ W, Ext w7 W → W.cell? ⟨gu, 0, none⟩ = some (.string s) ∧ W.cell? ⟨gu, 1, none⟩ = some (.int .i64 c) ∧ W.cell? ⟨gu, 2, none⟩ = some (.int .i64 e) ∧ W.cell? ⟨gu, 3, none⟩ = some (.bool false) := fun W hW => ⟨(HUR.out.ext (hx7.trans hW)).cell 0, (HUR.out.ext (hx7.trans hW)).cell 1, (HUR.out.ext (hx7.trans hW)).cell 2, (HUR.out.ext (hx7.trans hW)).cell 3⟩
      have hat7 := NdAt.ext HAT.out hx7
      have c5d : w7.drew.cell? ⟨z, 5, none⟩ = some (.slice (some ⟨g0, o0, none⟩) subs.length sc) := hx7.cell z5
      have hHBS := HBS0.out _ (hXW7.trans (Ext.refl w7).drew)
      have HBS := Lib.hid hHBS
      clear y0 y1 y2 y3 z5 hx7 hXW7 hHBS
      go_upto_region 19 with fail
      refine wp_region_mid (fun W => Ext w7 W) 12 (by kernel_rfl) ?_
      refine wpAnyM_pure (i := 0) rfl (by kernel_rfl) (by kernel_rfl) (by kernel_rfl) (by decide) (fun _ _ _ h => h) (Ext.refl w7).drew rfl (fun W => by go_simp; try rfl) ?_
      refine wpAnyM_take (i := 1) (v := v) [12] rfl (by kernel_rfl) (by kernel_rfl) (by kernel_rfl) (by kernel_rfl) (fun _ _ _ h => h) (Ext.refl w7).drew (yieldsIf_value rfl (fun W hW => by have k5' := k5 W hW; go_simp; try rfl)) ?_
      simp only [Act.put, List.setIfInBounds_toArray]
      refine wpAnyM_take (i := 7) (v := .agg #[.string s, .int .i64 c, .int .i64 e, .bool false]) [10, 11, 12] rfl (by kernel_rfl) (by kernel_rfl) (by kernel_rfl) (by kernel_rfl) (fun _ _ _ h => h) (Ext.refl w7).drew (yieldsIf_value rfl (fun W hW => by obtain ⟨k0', k1', k2', k3'⟩ := k7 W hW; go_simp; try rfl)) ?_
      simp only [Act.put]
      refine wpAnyM_pure (i := 2) rfl (by kernel_rfl) (by kernel_rfl) (by kernel_rfl) (by decide) (fun _ _ _ h => h) (Ext.refl w7).drew rfl (fun W => by go_simp; try rfl) ?_
      refine wpAnyM_pure (i := 4) rfl (by kernel_rfl) (by kernel_rfl) (by kernel_rfl) (by decide) (fun _ _ _ h => h) (Ext.refl w7).drew rfl (fun W => by go_simp; try rfl) ?_
      refine wpAnyM_pure (i := 8) rfl (by kernel_rfl) (by kernel_rfl) (by kernel_rfl) (by decide) (fun _ _ _ h => h) (Ext.refl w7).drew rfl (fun W => by go_simp; try rfl) ?_
      refine wpAnyM_pure (i := 9) rfl (by kernel_rfl) (by kernel_rfl) (by kernel_rfl) (by decide) (fun _ _ _ h => h) (Ext.refl w7).drew rfl (fun W => by go_simp; try rfl) ?_
      simp only [Act.put]
      refine wpAnyM_step (i := 3) (by kernel_rfl) rfl (by decide) ?_
      go_wp2
      refine stepQ_ok ⟨(Ext.refl w7).drew, ?_⟩
      refine wpAnyM_step (i := 5) (by kernel_rfl) rfl (by decide) ?_
      go_wp2
      refine stepQ_ok ⟨(Ext.refl w7).drew, ?_⟩
      refine wpAnyM_step (i := 6) (by kernel_rfl) rfl (by decide) ?_
      refine wpl_loadNd rfl _ rfl g0 (o0 + i * 10) nk.h sv0 rfl hat7.drew ?_
      refine stepQ_end ⟨(Ext.refl w7).drew, ?_⟩
      simp only [Act.put, List.setIfInBounds_toArray]
      refine wpAnyM_step (i := 10) (by kernel_rfl) rfl (by decide) ?_
      go_wp2_with (go_at_call 35; refine HBS.out.mono ?_; rintro e w8 ⟨sv8, rfl, hp8, hx8⟩)
      have hx8' := (Ext.refl w7).drew.trans hx8
      refine stepQ_ok ⟨hx8', ?_⟩
      refine wpAnyM_step (i := 11) (by kernel_rfl) rfl (by decide) ?_
      refine wpl_onePsB rfl _ rfl pk.d sv8 rfl ?_
      intro g7 w9 hb7 hx9 e9
      have hx9' := hx8'.trans hx9
      refine stepQ_end ⟨hx9', ?_⟩
      simp only [Act.put, List.setIfInBounds_toArray]
      have h78 := hx8'.size
      have h79 := hx9'.size
      refine wpAnyM_last3 (t := 13) (u := 14) (by kernel_rfl) rfl (by kernel_rfl) rfl (by kernel_rfl) rfl (by kernel_rfl) ?_
      refine wpl_appPs rfl _ _ rfl wB wB v l pk sv8 g7 1 rfl rfl (hL7.ext hx9') (by omega) (psIn_ext (hp8.near (C := wB) (by show wB ≤ w7.heap.size; omega) (fun i hi => (hL7.ownB i hi).2)) hx9) hb7 hll2 ?_
      intro v8 w10 hL10 hg10
      have hB10 : Blk w10 z9 83 (psA ⟨a, b, 0⟩ v) := grown_keep1 (hB7.ext hx9') hg10 (fun e => by have := (hL7.ownB z9 e).1; omega)
      have hk10 : Keeps (· = z9) w5 w10 := ((HKR.out.trans (Keeps.of_ext HX7.out) (fun _ _ h => h)).trans (Keeps.of_ext hx9') (fun _ _ h => h)).trans ((Keeps.of_grown hg10).mono (fun k _ hk => hk)) (fun k hk1 hk2 => by have := (hL7.ownB k hk2).1; omega)
      refine stepQ_end ?_
      simp only [Act.put]
      go_wp2
      refine stepQ_ok ?_
      obtain ⟨A8, c8, hv8, _⟩ := hL10.len
      subst hv8
      refine wpl_storePsS rfl _ _ rfl rfl z9 ⟨a, b, 0⟩ (.slice A8 _ c8) v rfl rfl (isSl_mk _ _ _) hB10 ?_
      intro w11 hB11 hk11
      have hL11 := hL10.keep1 hk11 h9B h9B
      have hk11' : Keeps (· = z9) w5 w11 := hk10.trans hk11 (fun _ _ h => h)
      have hlen2 : Hid ((l ++ [(pk, sv8)]).length = i + 1) := Lib.hid (by rw [List.length_append, HLN.out]; rfl)
      have hmap2 : Hid ((l ++ [(pk, sv8)]).map (·.1) ++ bestS (lfR s c e false) (subs.drop (i + 1)) kn b = bestS (lfR s c e false) subs a b) := Lib.hid (by rw [← HMP2.out]; simp)
      clear hL10 hB10 hk11 hg10 hx9' hb7 hp8 hx8 hx8' hx9 e9 h78 h79 hL7 hB7 hat7 k5 k7 c5d hs7 hk10
      go_wp2
      go_roundw
      case rel => exact ⟨i + 1, kn, _, l ++ [(pk, sv8)], hlt, by go_num, by rw [HKK.out], hc4, hlen2, HTK2, hmap2, hL11, hB11, hk11'⟩
      case measure => simp [intOf]; omega
    · have hdz : subs.drop i = [] := List.drop_eq_nil_of_le (by omega)
      have hmp := HMAP.out
      rw [hdz, bestS, List.append_nil] at hmp
      have hP := HLL.out.node (Nat.le_refl _) ⟨(a : Int), (b : Int), 0⟩
      rw [hmp, ← HBE.out] at hP
      have hz8 := HZ8.out.keep1 HKR.out h89
      have hsl : isSl v := by obtain ⟨A8, c8, rfl, _⟩ := HLL.out.len; exact isSl_mk _ _ _
      have hbd : Hid (be.d = ⟨a, b, 0⟩) := Lib.hid (by rw [HBE.out]; rfl)
      have HPP := Lib.hid hP
      have HSL := Lib.hid hsl
      have q9 : ¬ (i : Int) < (subs.length : Int) := by omega
      clear hdz hmp hP hsl HBE HMAP HTKi
      go_upto_region 23 with fail
      have hz9w := HBB.out
      have hz8w := hz8
      repeat (first | (refine wpl_loadPs rfl _ rfl z9 0 ⟨a, b, 0⟩ v rfl hz9w.ps ?_) | (refine wpl_storePs rfl _ _ rfl rfl z8 ⟨a, b, 0⟩ _ v _ rfl rfl HSL.out hz8w ?_; intro w9 hz8' hk8) | go_skip | go_guarded | go_step | go_upon)
      refine ret_ps rfl rfl rfl hz8' ⟨v, by rw [hbd.out], (HPP.out.keep1 hk8 h8B).mono hwB, HXR.out.keep1 hk8 h8w⟩
end

end Go.Proofs.YtgfknlkpdiejgaaGreatDoor

namespace Go.Proofs.YtgfknlkpdiejgaaGreatDoor
open Go Go.RowKit

theorem form_left {h : Hd} {x : Nd} (hk : h.kind = 8) (hf : formB (.mk h [x]) = true) : formB (.mk (leftH h) [x]) = true := by
  rw [formB, Bool.and_eq_true] at hf ⊢
  refine ⟨?_, hf.2⟩
  have h1 := hf.1
  have hk' : (leftH h).kind = 8 := hk
  unfold formedB at h1 ⊢
  rw [if_neg (by omega), if_neg (by omega), if_neg (by omega), if_neg (by omega), if_pos hk] at h1
  rw [if_neg (by omega), if_neg (by omega), if_neg (by omega), if_neg (by omega), if_pos hk']
  simp only [Bool.and_eq_true, Bool.or_eq_true, Bool.not_eq_true', decide_eq_true_eq, Bool.and_eq_false_iff, decide_eq_false_iff_not] at h1 ⊢
  obtain ⟨⟨⟨⟨⟨⟨a1, a2⟩, a3⟩, a4⟩, a5⟩, a6⟩, a7⟩ := h1
  have e1 : (leftH h).min = max (h.min - 1) 0 := rfl
  have e2 : (leftH h).max = if 0 < h.max then h.max - 1 else h.max := rfl
  refine ⟨⟨⟨⟨⟨⟨a1, a2⟩, a3⟩, by omega⟩, by omega⟩, ?_⟩, ?_⟩
  · rcases a6 with a6 | a6
    · exact .inl a6
    · exact .inr (by omega)
  · rw [e1, e2]
    split <;> omega
/-- The length of a slice. -/
def lenV : Value → Nat
  | .slice _ n _ => n
  | _ => 0
/-- What a call answers that makes a list of parses. -/
def RetPsL (w : World) (l : List Ps) (r : Ending) (w' : World) : Prop := ∃ sv, r = .returned sv ∧ isSl sv ∧ PsB w.heap.size w' (.mk ⟨0, 0, 0⟩ l) sv ∧ Ext w w'
theorem rnds_end {f : Nat → Nat → Ps} {R : Rl} {g a b : Nat} {mn mx : Int} (h : ¬ (a < b ∨ 0 < mn)) : rndsR f R g mn mx a b = [] := by
  cases g with
  | zero => rw [rndsR]
  | succ g => rw [rndsR, if_neg h]
theorem rnds_step {f : Nat → Nat → Ps} {R : Rl} {g a b : Nat} {hd : Hd} (h : a < b ∨ 0 < hd.min) : rndsR f R (g + 1) hd.min hd.max a b = f a (cutK R (rpR R (leftH hd).min (leftH hd).max) (if hd.min = 0 then a + 1 else a) a b) :: rndsR f R g (leftH hd).min (leftH hd).max (cutK R (rpR R (leftH hd).min (leftH hd).max) (if hd.min = 0 then a + 1 else a) a b) b := by
  rw [rndsR, if_pos h]
  rfl
section
variable {s : ByteArray} {c e : Int}
set_option maxRecDepth 100000 in
set_option maxHeartbeats 32000000 in
theorem rounds22_any (h : Hd) (x : Nd) (IH : BestOf s c e x) (hs : s.size ≤ 1000000) (hk : h.kind = 8) (svn : Value) (a b : Nat) (w : World) (hn : NdCap w (.mk h [x]) svn) (hf : formB (.mk h [x]) = true) (hsm : smallN (.mk h [x])) (ht : tkN (lfR s c e false) (.mk h [x]) a b) (hb : b ≤ s.size) :
    Calls Tryz.prog 65 #[nodeV h svn, srV s c e false, .int .i64 a, .int .i64 b] w (RetPsL w (repR (fun u v => bestA (lfR s c e false) [x] u v) (fun u v => tkA (lfR s c e false) [x] u v) h.bare h.min h.max a b)) := by
  have hcase := form_cases hf
  have hfx : formB x = true := form_sub hf x (by simp)
  have hsx : smallN x := smallL_mem hsm.2 x (by simp)
  have hL := lfR_ok s c e false
  have hM := tkN_mon hL x
  have hab := (tkN_mon hL _ a b ht).1
  have hrp := (tk_rep h x hk a b).1 ht
  have eR : (fun u v => tkA (lfR s c e false) [x] u v) = tkN (lfR s c e false) x := by funext u v; exact propext (tkA_one _ x u v)
  rw [eR]
  obtain ⟨RS, hRS⟩ : ∃ RS, RS = repR (fun u v => bestA (lfR s c e false) [x] u v) (tkN (lfR s c e false) x) h.bare h.min h.max a b := ⟨_, rfl⟩
  rw [← hRS]
  have HRS := Lib.hid hRS
  obtain ⟨SA, sc, rfl, hcl, hNs⟩ := hn
  have hn : NdCap w (.mk h [x]) (.slice SA 1 sc) := ⟨SA, sc, rfl, hcl, hNs⟩
  obtain ⟨g0, o0, sv0, rfl, hat, hok⟩ := hn.get 0 (by simp)
  replace hat : NdAt w g0 o0 x.h sv0 := by simpa using hat
  replace hok : NdCap w x sv0 := hok
  have hsl := hok.ok.sl
  have HOK := Lib.hid hok
  have HATW := Lib.hid (fun W (hW : Ext w W) => NdAt.ext hat hW)
  have hm0 : 0 ≤ h.min ∧ h.min ≤ 255 ∧ -1 ≤ h.max ∧ h.max ≤ 255 := by
    rcases hcase with h1 | h1 | h1 | h1 | h1 | h1 | h1 | h1
    all_goals first | exact ⟨h1.2.2.1, h1.2.2.2.1, h1.2.2.2.2.1, h1.2.2.2.2.2⟩ | omega
  have HF := Lib.hid hf
  have HM := Lib.hid hM
  have HN0 := Lib.hid hn
  have hsmx : x.subs.length ≤ 1000000 ∨ True := .inr trivial
  simp only [List.length_cons, List.length_nil, Nat.zero_add]
  unfold srV
  clear hcase hn hNs hcl hok hf hRS hsmx hat ht eR
  go_enter Tryz.func65, Tryz.ntmps65
  go_upto_region 1 with (refine wpl_boxNd rfl _ rfl h _ rfl ?_; intro z w1 hbz hx1 ez sz)
  have hV := Blk.new w1 35 #[.string s, .int .i64 c, .int .i64 e, .bool false]
  have hxv := (Ext.refl w1).alloc (.cells #[.string s, .int .i64 c, .int .i64 e, .bool false] 35)
  generalize w1.alloc (.cells #[.string s, .int .i64 c, .int .i64 e, .bool false] 35) = w2 at *
  generalize w1.heap.size = gu at *
  have hx2 := hx1.trans hxv
  have hb2 := hbz.ext hxv
  have hzg : z ≠ gu := by omega
  have hgl := hV.lt
  have c8 : w2.cell? ⟨z, 8, none⟩ = some (.int .i64 h.max) := hb2.cell 8
  have z5 : w2.cell? ⟨z, 5, none⟩ = some (.slice (some ⟨g0, o0, none⟩) 1 sc) := hb2.cell 5
  have HB2 := Lib.hid hb2
  have HV2 := Lib.hid hV
  have HX2 := Lib.hid hx2
  clear hbz hx1 hxv hV hb2 hx2
  by_cases hmx : h.max = 0
  · have q0 : (h.max == 0) = true := by rw [beq_iff_eq]; exact hmx
    have HE : Hid (RS = []) := Lib.hid (by rw [HRS.out]; unfold repR; rw [if_pos hmx])
    clear HRS hmx
    go_wp2
    go_ret
    exact ⟨_, rfl, isSl_mk _ _ _, by rw [HE.out]; exact PsB.nil _ _ _ _ _, HX2.out⟩
  · have q0 : (h.max == 0) = false := by rw [beq_eq_false_iff_ne]; exact hmx
    have hatz := HATW.out w2 HX2.out
    go_upto_region 5 with (first
      | (refine wpl_allocNd rfl rfl ?_; intro zs w3 hz3 hx3 e3 s3)
      | (refine wpl_loadNd rfl _ rfl g0 o0 x.h sv0 rfl hatz ?_)
      | (refine wpl_storeNd rfl _ _ rfl rfl zs x.h _ sv0 _ rfl rfl hsl hz3 ?_; intro w4 hz4 hk4))
    simp only [Act.put, List.setIfInBounds_toArray, List.set_cons_zero, List.set_cons_succ]
    have hxA : Ext w2 w4 := hx3.keep1 hk4 e3
    have HX4 := Lib.hid (HX2.out.trans hxA)
    have hbz4 := HB2.out.ext hxA
    have HZ4 := Lib.hid hbz4
    have HV4 := Lib.hid (HV2.out.ext hxA)
    have HZS := Lib.hid hz4
    have c7 : w4.cell? ⟨z, 7, none⟩ = some (.int .i64 h.min) := hbz4.cell 7
    have hsz4 := hk4.size
    have hsx2 := HX2.out.size
    obtain ⟨wB, hwB0, hwB1, hzB, hgB, hsB, hwB⟩ : ∃ wB, wB ≤ w4.heap.size ∧ w4.heap.size ≤ wB ∧ z < wB ∧ gu < wB ∧ zs < wB ∧ w.heap.size ≤ wB := ⟨w4.heap.size, Nat.le_refl _, Nat.le_refl _, by omega, by omega, by omega, by omega⟩
    have hzzs : z ≠ zs := by omega
    have hzw : w.heap.size ≤ z := ez
    clear hxA hbz4 hz3 hx3 e3 s3 hz4 hk4 c8 z5 hatz hsz4 hsx2 ez sz hgl q0
    obtain ⟨d, hd⟩ : ∃ d : Bool, d = decide (a = b ∧ h.min = 0) := ⟨_, rfl⟩
    have HD := Lib.hid hd
    clear hd
    go_cut [29] (fun v wx => v = .bool d ∧ w4 = wx)
    case first =>
      by_cases hab2 : a = b
      · have q1 : ((a : Int) == (b : Int)) = true := by rw [beq_iff_eq]; omega
        by_cases hm : h.min = 0
        · have q2 : (h.min == 0) = true := by rw [beq_iff_eq]; exact hm
          have HD2 : Hid (d = true) := Lib.hid (by rw [HD.out]; exact decide_eq_true ⟨hab2, hm⟩)
          clear HD hab2 hm hm0
          go_wp2
          go_meet
          case rel => exact ⟨by rw [HD2.out], rfl⟩
        · have q2 : (h.min == 0) = false := by rw [beq_eq_false_iff_ne]; exact hm
          have HD2 : Hid (d = false) := Lib.hid (by rw [HD.out]; exact decide_eq_false (fun x => hm x.2))
          clear HD hab2 hm hm0
          go_wp2
          go_meet
          case rel => exact ⟨by rw [HD2.out], rfl⟩
      · have q1 : ((a : Int) == (b : Int)) = false := by rw [beq_eq_false_iff_ne]; omega
        have HD2 : Hid (d = false) := Lib.hid (by rw [HD.out]; exact decide_eq_false (fun x => hab2 x.1))
        clear HD hab2 hm0
        go_wp2
        go_meet
        case rel => exact ⟨by rw [HD2.out], rfl⟩
    obtain ⟨rfl, rfl⟩ := hcut
    clear c7
    cases d with
    | true =>
      obtain ⟨hab1, hmn⟩ := of_decide_eq_true HD.out.symm
      have HRE1 : Hid (h.bare = false → tkN (lfR s c e false) x a b → RS = [bestN (lfR s c e false) x a b]) := Lib.hid (fun h1 h2 => by
        rw [HRS.out]; unfold repR
        rw [if_neg hmx, if_pos ⟨hab1, hmn⟩, if_pos ⟨h1, h2⟩]
        show [bestA (lfR s c e false) [x] a b] = _
        rw [bestA_one _ _ _ h2])
      have HRE0 : Hid (¬ (h.bare = false ∧ tkN (lfR s c e false) x a b) → RS = []) := Lib.hid (fun h1 => by
        rw [HRS.out]; unfold repR
        rw [if_neg hmx, if_pos ⟨hab1, hmn⟩, if_neg h1])
      have HTA := Lib.hid (rtakes_any (s := s) (c := c) (e := e) (tn := false) x sv0 a b w4 hs (by omega) hb hfx hsx (NdOk.ext HX4.out _ _ HOK.out.ok))
      have HDC := Lib.hid (img_one (R := tkN (lfR s c e false) x) (a := a) (b := b))
      obtain ⟨tk, htk⟩ : ∃ tk, tk = img (tkN (lfR s c e false) x) (oneP a) b := ⟨_, rfl⟩
      rw [← htk] at HTA HDC
      unfold srV at HTA
      clear htk HRS hab1 hmn hrp hm0 hmx
      have y0 : w4.cell? ⟨gu, 0, none⟩ = some (.string s) := (HV4.out).cell 0
      have y1 : w4.cell? ⟨gu, 1, none⟩ = some (.int .i64 c) := (HV4.out).cell 1
      have y2 : w4.cell? ⟨gu, 2, none⟩ = some (.int .i64 e) := (HV4.out).cell 2
      have y3 : w4.cell? ⟨gu, 3, none⟩ = some (.bool false) := (HV4.out).cell 3
      go_upto_region 7 with (first
        | (refine wpl_loadNd rfl _ rfl zs 0 x.h sv0 rfl HZS.out.nd ?_)
        | (go_at_call 33; refine HTA.out.mono ?_; rintro e w7 ⟨rfl, hx7⟩))
      try simp only [Act.put, List.setIfInBounds_toArray, List.set_cons_zero, List.set_cons_succ]
      have c9 : w7.cell? ⟨z, 9, none⟩ = some (.bool h.bare) := (HZ4.out.ext hx7).cell 9
      clear y0 y1 y2 y3
      have HX7 := Lib.hid hx7
      obtain ⟨br, hbr⟩ : ∃ br, br = h.bare := ⟨_, rfl⟩
      rw [← hbr] at c9 HRE1 HRE0
      clear hbr
      by_cases hbt : tk = true ∧ br = false
      · obtain ⟨rfl, rfl⟩ := hbt
        have htk := HDC.out.1 rfl
        have HRE2 : Hid (RS = [bestN (lfR s c e false) x a b]) := Lib.hid (HRE1.out rfl htk)
        have HBS0 := Lib.hid (fun W (hW : Ext w W) => IH sv0 a b W (NdCap.ext hW HOK.out) hfx hsx htk hb)
        generalize bestN (lfR s c e false) x a b = pk at *
        have hxw7 := HX4.out.trans hx7
        have HBS := Lib.hid (HBS0.out _ hxw7)
        unfold srV at HBS
        have HXW7 := Lib.hid hxw7
        have hzs7 := (HZS.out.ext hx7).nd
        have hL7 : LstPs w7 wB wB (.slice none 0 0) [] := LstPs.nil _ _ _
        have hs7 := hx7.size
        have y0 : w7.cell? ⟨gu, 0, none⟩ = some (.string s) := (HV4.out.ext HX7.out).cell 0
        have y1 : w7.cell? ⟨gu, 1, none⟩ = some (.int .i64 c) := (HV4.out.ext HX7.out).cell 1
        have y2 : w7.cell? ⟨gu, 2, none⟩ = some (.int .i64 e) := (HV4.out.ext HX7.out).cell 2
        have y3 : w7.cell? ⟨gu, 3, none⟩ = some (.bool false) := (HV4.out.ext HX7.out).cell 3
        clear htk HRE1 HRE0 HDC hxw7 hx7
        go_upto_region 9 with (first
          | (refine wpl_loadNd rfl _ rfl zs 0 x.h sv0 rfl hzs7 ?_)
          | (refine wpl_onePsB rfl _ rfl pk.d sv8 rfl ?_; intro g7 w9 hb7 hx9 e9)
          | (refine wpl_appPs rfl _ _ rfl wB wB (.slice none 0 0) [] pk sv8 g7 1 rfl rfl (hL7.ext (hx8.trans hx9)) (by have := hx8.size; have := hx9.size; omega) (psIn_ext (hp8.near (C := wB) (by omega) (fun i hi => (hL7.ownB i hi).2)) hx9) hb7 (by simp) ?_; intro v8 w10 hL10 hg10)
          | (go_at_call 35; refine HBS.out.mono ?_; rintro e w8 ⟨sv8, rfl, hp8, hx8⟩))
        try simp only [Act.put, List.setIfInBounds_toArray, List.set_cons_zero, List.set_cons_succ]
        have hx9' := hx8.trans hx9
        obtain ⟨A8, c8, hv8, _⟩ := hL10.len
        obtain ⟨n8, hn8⟩ : ∃ n8, n8 = ([] ++ [(pk, sv8)]).length := ⟨_, rfl⟩
        rw [← hn8] at hv8
        subst hv8
        have HN8 := Lib.hid hn8
        clear hn8
        have hP := hL10.node (Nat.le_refl _) ⟨0, 0, 0⟩
        have HP := Lib.hid hP
        have hx10 := ext_grown_Ps (w0 := w) (HXW7.out.trans hx9') (hL7.ext hx9') (by omega) hg10
        clear hP hL10 hg10 hx9' hb7 hp8 hx8 hx9 e9 hL7 hzs7 hs7 c9
        go_wp2
        go_ret
        exact ⟨_, rfl, isSl_mk _ _ _, by rw [HRE2.out]; exact HP.out.mono hwB, hx10⟩
      · have HRE2 : Hid (RS = []) := Lib.hid (HRE0.out fun h => hbt ⟨HDC.out.2 h.2, h.1⟩)
        have hxw7 := HX4.out.trans hx7
        have q5 : (tk && !br) = false := by
          cases tk <;> cases br <;> first | rfl | exact absurd ⟨rfl, rfl⟩ hbt
        clear HRE1 HRE0 HDC hbt hx7
        cases tk with
        | false =>
          clear q5
          go_wp2
          go_ret
          exact ⟨_, rfl, isSl_mk _ _ _, by rw [HRE2.out]; exact PsB.nil _ _ _ _ _, hxw7⟩
        | true =>
          obtain rfl : br = true := by simpa using q5
          clear q5
          go_wp2
          go_ret
          exact ⟨_, rfl, isSl_mk _ _ _, by rw [HRE2.out]; exact PsB.nil _ _ _ _ _, hxw7⟩
    | false =>
      have hcond : ¬ (a = b ∧ h.min = 0) := of_decide_eq_false HD.out.symm
      obtain ⟨G, hG⟩ : ∃ G, G = h.min.toNat + (b - a) := ⟨_, rfl⟩
      have hGb : G ≤ 2000000 := by omega
      have HR0 : Hid (([] : List (Ps × Value)).map (·.1) ++ rndsR (fun u v => bestA (lfR s c e false) [x] u v) (tkN (lfR s c e false) x) G h.min h.max a b = RS) := Lib.hid (by rw [HRS.out, hG]; unfold repR; rw [if_neg hmx, if_neg hcond]; rfl)
      have hG2 : Hid (([] : List (Ps × Value)).length + G = G) := Lib.hid (by simp)
      have HRP0 := Lib.hid hrp
      have hg0 : h.min.toNat + (b - a) ≤ G := by omega
      have hL0 : LstPs w4 wB wB (.slice none 0 0) [] := LstPs.nil _ _ _
      have hk0 : Keeps (· = z) w4 w4 := Keeps.refl _ _
      have hBS : ∀ (u v : Nat) W, Ext w W → tkN (lfR s c e false) x u v → v ≤ s.size → Calls Tryz.prog 35 #[nodeV x.h sv0, srV s c e false, .int .i64 u, .int .i64 v] W (RetPsB W (bestN (lfR s c e false) x u v)) := fun u v W hW h1 h2 => IH sv0 u v W (NdCap.ext hW HOK.out) hfx hsx h1 h2
      have HIH := Lib.hid hBS
      unfold srV at HIH
      have hab0 : a ≤ b := by omega
      clear hBS hG HRS hcond hmx hrp hm0 IH
      go_upto_region 10 with fail
      go_loopw [2, 9, 12, 13] (fun fv lv _ _ wr => ∃ (hd : Hd) (g ak nl c9 : Nat) (A9 : Option Addr) (l : List (Ps × Value)), fv = .int .i64 ak ∧ lv = .slice A9 nl c9 ∧ ak ≤ b ∧ hd.kind = 8 ∧ Hid (formB (.mk hd [x]) = true) ∧ Hid (rpR (tkN (lfR s c e false) x) hd.min hd.max ak b) ∧ hd.min.toNat + (b - ak) ≤ g ∧ nl + g = G ∧ Hid (l.length = nl) ∧ Hid (l.map (·.1) ++ rndsR (fun u v => bestA (lfR s c e false) [x] u v) (tkN (lfR s c e false) x) g hd.min hd.max ak b = RS) ∧ LstPs wr wB wB (.slice A9 nl c9) l ∧ Blk wr z 27 (nodeA hd (.slice (some ⟨g0, o0, none⟩) 1 sc)) ∧ Keeps (· = z) w4 wr) (fun _ lv _ _ _ => G - lenV lv)
      case atStart => exact ⟨h, G, a, 0, 0, none, [], rfl, rfl, hab0, hk, HF, HRP0, hg0, Nat.zero_add _, Lib.hid rfl, HR0, hL0, HZ4.out, hk0⟩
      case round =>
        clear hL0 hk0 HR0 HRP0 hG2 hg0 HF
        obtain ⟨hd, g, ak, nl, c9, A9, l, rfl, rfl, hakb, hk8, HFD, HRP, hgg, hnG, HLN, HMAP, hL, hB, hK⟩ := hrel
        have hmd : 0 ≤ hd.min ∧ hd.min ≤ 255 ∧ -1 ≤ hd.max ∧ hd.max ≤ 255 := by
          rcases form_cases HFD.out with h1 | h1 | h1 | h1 | h1 | h1 | h1 | h1
          all_goals first | exact ⟨h1.2.2.1, h1.2.2.2.1, h1.2.2.2.2.1, h1.2.2.2.2.2⟩ | omega
        have c7 : wr.cell? ⟨z, 7, none⟩ = some (.int .i64 hd.min) := hB.cell 7
        have HLL := Lib.hid hL
        have HBB := Lib.hid hB
        have HKR := Lib.hid hK
        have hwr : wB ≤ wr.heap.size := by have := hK.size; omega
        have HXR : Hid (Ext w wr) := Lib.hid (HX4.out.keep1 hK hzw)
        have HUR := Lib.hid (HV4.out.keep1 hK (fun e => hzg e.symm))
        have HSR := Lib.hid (HZS.out.keep1 hK (fun e => hzzs e.symm))
        clear hL hB hK
        by_cases hlt : ak < b
        · have q9 : (ak : Int) < (b : Int) := by omega
          have hcond : ak < b ∨ 0 < hd.min := .inl hlt
          clear hlt
          go_upto_region 11 with fail
          obtain ⟨ls, hls⟩ : ∃ ls : Nat, ls = if hd.min = 0 then ak + 1 else ak := ⟨_, rfl⟩
          have HLS := Lib.hid hls
          have hlk : ak ≤ ls ∧ (hd.min = 0 → ls = ak + 1) := by constructor <;> (try intro h0) <;> rw [hls] <;> (try rw [if_pos h0]) <;> (try split) <;> omega
          clear hls
          go_upto_if 61 with fail
          go_cut [12, 61] (fun v _ wx => v = .int .i64 (ls : Int) ∧ wr = wx)
          case first =>
            by_cases hm1 : hd.min = 0
            · have q2 : (hd.min == 0) = true := by rw [beq_iff_eq]; exact hm1
              have HLE : Hid ((ls : Int) = ((ak + 1 : Nat) : Int)) := Lib.hid (by rw [HLS.out, if_pos hm1])
              have q3 : IntKind.i64.wrap ((ak : Int) + 1) = ((ak + 1 : Nat) : Int) := by rw [IntKind.wrap_i64]; omega
              clear hm1 hlk HLS hcond
              go_wp2
              go_meet
              case rel => exact ⟨congrArg (Value.int .i64) (by have := HLE.out; omega), rfl⟩
            · have q2 : (hd.min == 0) = false := by rw [beq_eq_false_iff_ne]; exact hm1
              have HLE : Hid ((ls : Int) = (ak : Int)) := Lib.hid (by rw [HLS.out, if_neg hm1])
              clear hm1 hlk HLS hcond
              go_wp2
              go_meet
              case rel => exact ⟨congrArg (Value.int .i64) (by have := HLE.out; omega), rfl⟩
          obtain ⟨rfl, rfl⟩ := hcut
          have hlm : (leftH hd).min = max (hd.min - 1) 0 := rfl
          have hkl : (leftH hd).kind = 8 := hk8
          have hfl := form_left hk8 HFD.out
          obtain ⟨gm, hgm⟩ : ∃ gm, g = gm + 1 := ⟨g - 1, by omega⟩
          subst hgm
          have hmp3 := HMAP.out
          rw [rnds_step hcond, ← HLS.out] at hmp3
          have hsp : ∃ k : Int, (ls : Int) ≤ k ∧ tkN (lfR s c e false) x ak k ∧ rpR (tkN (lfR s c e false) x) (leftH hd).min (leftH hd).max k b := by
            rw [HLS.out]; exact rp_split hM hmd.1 hmd.2.2.1 HRP.out hcond
          have hcs := cutK_spec (R := tkN (lfR s c e false) x) (S := rpR (tkN (lfR s c e false) x) (leftH hd).min (leftH hd).max) (hM.rp _ _) hsp
          have eL : tkN (lfR s c e false) (.mk (leftH hd) [x]) = rpR (tkN (lfR s c e false) x) (leftH hd).min (leftH hd).max := by
            funext u v; exact propext (tk_rep (leftH hd) x hkl u v)
          have hcu : ∀ W, Ext w W → _ := fun W (hW : Ext w W) => rcut_any (s := s) (c := c) (e := e) x (.mk (leftH hd) [x]) sv0 (.slice (some ⟨g0, o0, none⟩) 1 sc) ak b ls W hs (by omega) hb hfx hsx (NdOk.ext hW _ _ HOK.out.ok) hfl ⟨by simp, hsx, trivial⟩ (ndOk_head (NdOk.ext hW _ _ HN0.out.ok)) (by rw [eL]; exact hsp)
          rw [eL] at hcu
          have hlt0 : ∀ W, _ := fun W => rleft_any hd (.slice (some ⟨g0, o0, none⟩) 1 sc) W (isSl_mk _ _ _) ⟨hmd.1, by omega⟩ ⟨hmd.2.2.1, by omega⟩
          have HCU := Lib.hid hcu
          have HLT := Lib.hid hlt0
          clear hcu hlt0 hsp eL
          unfold srV at HCU
          obtain ⟨kn, hkn⟩ : ∃ kn, kn = cutK (tkN (lfR s c e false) x) (rpR (tkN (lfR s c e false) x) (leftH hd).min (leftH hd).max) ls ak b := ⟨_, rfl⟩
          rw [← hkn] at hcs hmp3 HCU
          obtain ⟨hc1, hc2, hc3, hc4, _⟩ := hcs
          have HRP2 := Lib.hid hc3
          rw [bestA_one _ _ _ hc2] at hmp3
          have HMP2 := Lib.hid hmp3
          have HFL := Lib.hid hfl
          have hgg2 : (leftH hd).min.toNat + (b - kn) ≤ gm := by rw [hlm]; omega
          have HBS0 := Lib.hid (fun W hW => HIH.out ak kn W hW hc2 (by omega))
          generalize bestN (lfR s c e false) x ak kn = pk at *
          simp only [Nd.h] at HCU
          generalize leftH hd = lh at *
          have hlim : l.length ≤ 1000000000 := by have := HLN.out; omega
          clear hc2 hc3 hmp3 hfl hlm hkn hcond c7
          go_upto_region 15 with (first
            | (refine wpl_storeNd rfl _ _ rfl rfl z lh hd (.slice (some ⟨g0, o0, none⟩) 1 sc) (.slice (some ⟨g0, o0, none⟩) 1 sc) rfl rfl (isSl_mk _ _ _) (HBB.out.ext hx5) ?_; intro w6 hB6 hk6)
            | (go_at_call 83; refine (HLT.out wr).mono ?_; rintro e w5 ⟨rfl, hx5⟩)
            | (refine wpl_loadNd rfl _ rfl z 0 hd (.slice (some ⟨g0, o0, none⟩) 1 sc) rfl HBB.out.nd ?_))
          try simp only [Act.put, List.setIfInBounds_toArray, List.set_cons_zero, List.set_cons_succ]
          have hkr6 : Keeps (· = z) wr w6 := (Keeps.of_ext hx5).trans hk6 (fun _ _ h => h)
          have hxw6 : Ext w w6 := HXR.out.keep1 hkr6 hzw
          have hL6 := (HLL.out.ext hx5).keep1 hk6 hzB hzB
          have HB6 := Lib.hid hB6
          have hU6 := HUR.out.keep1 hkr6 (fun e => hzg e.symm)
          have y0 : w6.cell? ⟨gu, 0, none⟩ = some (.string s) := (hU6).cell 0
          have y1 : w6.cell? ⟨gu, 1, none⟩ = some (.int .i64 c) := (hU6).cell 1
          have y2 : w6.cell? ⟨gu, 2, none⟩ = some (.int .i64 e) := (hU6).cell 2
          have y3 : w6.cell? ⟨gu, 3, none⟩ = some (.bool false) := (hU6).cell 3
          have hS6 := HSR.out.keep1 hkr6 (fun e => hzzs e.symm)
          have HCY := Lib.hid (HCU.out w6 hxw6)
          have HU6 := Lib.hid hU6
          have HS6 := Lib.hid hS6
          have HKR6 := Lib.hid (HKR.out.trans hkr6 (fun _ _ h => h))
          have HXW6 := Lib.hid hxw6
          have hw6s := hkr6.size
          clear hB6 hk6 hx5 hkr6 hxw6 hU6 hS6
          go_upto_region 16 with (first
            | (refine wpl_loadNd rfl _ rfl zs 0 x.h sv0 rfl HS6.out.nd ?_)
            | (refine wpl_loadNd rfl _ rfl z 0 lh (.slice (some ⟨g0, o0, none⟩) 1 sc) rfl HB6.out.nd ?_)
            | (go_at_call 63; refine HCY.out.mono ?_; rintro e w7 ⟨rfl, hx7⟩))
          try simp only [Act.put, List.setIfInBounds_toArray, List.set_cons_zero, List.set_cons_succ]
          clear y0 y1 y2 y3
          have HBS := Lib.hid (HBS0.out w7 (HXW6.out.trans hx7))
          have hL7 := hL6.ext hx7
          have hzs7 := (HS6.out.ext hx7).nd
          have HX7 := Lib.hid hx7
          have hs7 := hx7.size
          have y0 : w7.cell? ⟨gu, 0, none⟩ = some (.string s) := (HU6.out.ext HX7.out).cell 0
          have y1 : w7.cell? ⟨gu, 1, none⟩ = some (.int .i64 c) := (HU6.out.ext HX7.out).cell 1
          have y2 : w7.cell? ⟨gu, 2, none⟩ = some (.int .i64 e) := (HU6.out.ext HX7.out).cell 2
          have y3 : w7.cell? ⟨gu, 3, none⟩ = some (.bool false) := (HU6.out.ext HX7.out).cell 3
          clear hx7 hL6
          go_upto_region 17 with (first
            | (refine wpl_loadNd rfl _ rfl zs 0 x.h sv0 rfl hzs7 ?_)
            | (refine wpl_onePsB rfl _ rfl pk.d sv8 rfl ?_; intro g7 w9 hb7 hx9 e9)
            | (refine wpl_appPs rfl _ _ rfl wB wB (.slice A9 nl c9) l pk sv8 g7 1 rfl rfl (hL7.ext (hx8.trans hx9)) (by have := hx8.size; have := hx9.size; omega) (psIn_ext (hp8.near (C := wB) (by omega) (fun i hi => (hL7.ownB i hi).2)) hx9) hb7 hlim ?_; intro v8 w10 hL10 hg10)
            | (go_at_call 35; refine HBS.out.mono ?_; rintro e w8 ⟨sv8, rfl, hp8, hx8⟩))
          try simp only [Act.put, List.setIfInBounds_toArray, List.set_cons_zero, List.set_cons_succ]
          have hx9' := hx8.trans hx9
          obtain ⟨A8, c8, hv8, _⟩ := hL10.len
          obtain ⟨n8, hn8⟩ : ∃ n8, n8 = (l ++ [(pk, sv8)]).length := ⟨_, rfl⟩
          rw [← hn8] at hv8
          subst hv8
          have HN8 := Lib.hid hn8
          clear hn8
          have hB10 : Blk w10 z 27 (nodeA lh (.slice (some ⟨g0, o0, none⟩) 1 sc)) := grown_keep1 (HB6.out.ext (HX7.out.trans hx9')) hg10 (fun e => by have := (hL7.ownB z e).1; omega)
          have hk10 : Keeps (· = z) w4 w10 := (HKR6.out.trans (Keeps.of_ext (HX7.out.trans hx9')) (fun _ _ h => h)).trans ((Keeps.of_grown hg10).mono (fun k _ hk => hk)) (fun k hk1 hk2 => by have := (hL7.ownB k hk2).1; omega)
          have hn8 : n8 = nl + 1 := by have := HN8.out; have h2 := HLN.out; simp only [List.length_append, List.length_cons, List.length_nil] at this; omega
          have hnG2 : n8 + gm = G := by omega
          have HMP3 : Hid ((l ++ [(pk, sv8)]).map (·.1) ++ rndsR (fun u v => bestA (lfR s c e false) [x] u v) (tkN (lfR s c e false) x) gm lh.min lh.max kn b = RS) := Lib.hid (by rw [← HMP2.out]; simp)
          have HLN2 : Hid ((l ++ [(pk, sv8)]).length = n8) := Lib.hid HN8.out.symm
          have hmea : G - n8 < G - nl := by omega
          clear hg10 hx9' hb7 hp8 hx8 hx9 e9 hL7 hzs7 hs7 y0 y1 y2 y3 hn8
          go_wp2
          go_roundw
          case rel => exact ⟨lh, gm, kn, n8, c8, A8, l ++ [(pk, sv8)], rfl, rfl, hc4, hkl, HFL, HRP2, hgg2, hnG2, HLN2, HMP3, hL10, hB10, hk10⟩
          case measure => exact hmea
        · by_cases hmp : 0 < hd.min
          · have q9 : ¬ (ak : Int) < (b : Int) := by omega
            have hcond : ak < b ∨ 0 < hd.min := .inr hmp
            clear hlt
            go_upto_region 11 with fail
            obtain ⟨ls, hls⟩ : ∃ ls : Nat, ls = if hd.min = 0 then ak + 1 else ak := ⟨_, rfl⟩
            have HLS := Lib.hid hls
            have hlk : ak ≤ ls ∧ (hd.min = 0 → ls = ak + 1) := by constructor <;> (try intro h0) <;> rw [hls] <;> (try rw [if_pos h0]) <;> (try split) <;> omega
            clear hls
            go_upto_if 61 with fail
            go_cut [12, 61] (fun v _ wx => v = .int .i64 (ls : Int) ∧ wr = wx)
            case first =>
              by_cases hm1 : hd.min = 0
              · exact absurd hm1 (by omega)
              · have q2 : (hd.min == 0) = false := by rw [beq_eq_false_iff_ne]; exact hm1
                have HLE : Hid ((ls : Int) = (ak : Int)) := Lib.hid (by rw [HLS.out, if_neg hm1])
                clear hm1 hlk HLS hcond
                go_wp2
                go_meet
                case rel => exact ⟨congrArg (Value.int .i64) (by have := HLE.out; omega), rfl⟩
            obtain ⟨rfl, rfl⟩ := hcut
            have hlm : (leftH hd).min = max (hd.min - 1) 0 := rfl
            have hkl : (leftH hd).kind = 8 := hk8
            have hfl := form_left hk8 HFD.out
            obtain ⟨gm, hgm⟩ : ∃ gm, g = gm + 1 := ⟨g - 1, by omega⟩
            subst hgm
            have hmp3 := HMAP.out
            rw [rnds_step hcond, ← HLS.out] at hmp3
            have hsp : ∃ k : Int, (ls : Int) ≤ k ∧ tkN (lfR s c e false) x ak k ∧ rpR (tkN (lfR s c e false) x) (leftH hd).min (leftH hd).max k b := by
              rw [HLS.out]; exact rp_split hM hmd.1 hmd.2.2.1 HRP.out hcond
            have hcs := cutK_spec (R := tkN (lfR s c e false) x) (S := rpR (tkN (lfR s c e false) x) (leftH hd).min (leftH hd).max) (hM.rp _ _) hsp
            have eL : tkN (lfR s c e false) (.mk (leftH hd) [x]) = rpR (tkN (lfR s c e false) x) (leftH hd).min (leftH hd).max := by
              funext u v; exact propext (tk_rep (leftH hd) x hkl u v)
            have hcu : ∀ W, Ext w W → _ := fun W (hW : Ext w W) => rcut_any (s := s) (c := c) (e := e) x (.mk (leftH hd) [x]) sv0 (.slice (some ⟨g0, o0, none⟩) 1 sc) ak b ls W hs (by omega) hb hfx hsx (NdOk.ext hW _ _ HOK.out.ok) hfl ⟨by simp, hsx, trivial⟩ (ndOk_head (NdOk.ext hW _ _ HN0.out.ok)) (by rw [eL]; exact hsp)
            rw [eL] at hcu
            have hlt0 : ∀ W, _ := fun W => rleft_any hd (.slice (some ⟨g0, o0, none⟩) 1 sc) W (isSl_mk _ _ _) ⟨hmd.1, by omega⟩ ⟨hmd.2.2.1, by omega⟩
            have HCU := Lib.hid hcu
            have HLT := Lib.hid hlt0
            clear hcu hlt0 hsp eL
            unfold srV at HCU
            obtain ⟨kn, hkn⟩ : ∃ kn, kn = cutK (tkN (lfR s c e false) x) (rpR (tkN (lfR s c e false) x) (leftH hd).min (leftH hd).max) ls ak b := ⟨_, rfl⟩
            rw [← hkn] at hcs hmp3 HCU
            obtain ⟨hc1, hc2, hc3, hc4, _⟩ := hcs
            have HRP2 := Lib.hid hc3
            rw [bestA_one _ _ _ hc2] at hmp3
            have HMP2 := Lib.hid hmp3
            have HFL := Lib.hid hfl
            have hgg2 : (leftH hd).min.toNat + (b - kn) ≤ gm := by rw [hlm]; omega
            have HBS0 := Lib.hid (fun W hW => HIH.out ak kn W hW hc2 (by omega))
            generalize bestN (lfR s c e false) x ak kn = pk at *
            simp only [Nd.h] at HCU
            generalize leftH hd = lh at *
            have hlim : l.length ≤ 1000000000 := by have := HLN.out; omega
            clear hc2 hc3 hmp3 hfl hlm hkn hcond c7
            go_upto_region 15 with (first
              | (refine wpl_storeNd rfl _ _ rfl rfl z lh hd (.slice (some ⟨g0, o0, none⟩) 1 sc) (.slice (some ⟨g0, o0, none⟩) 1 sc) rfl rfl (isSl_mk _ _ _) (HBB.out.ext hx5) ?_; intro w6 hB6 hk6)
              | (go_at_call 83; refine (HLT.out wr).mono ?_; rintro e w5 ⟨rfl, hx5⟩)
              | (refine wpl_loadNd rfl _ rfl z 0 hd (.slice (some ⟨g0, o0, none⟩) 1 sc) rfl HBB.out.nd ?_))
            try simp only [Act.put, List.setIfInBounds_toArray, List.set_cons_zero, List.set_cons_succ]
            have hkr6 : Keeps (· = z) wr w6 := (Keeps.of_ext hx5).trans hk6 (fun _ _ h => h)
            have hxw6 : Ext w w6 := HXR.out.keep1 hkr6 hzw
            have hL6 := (HLL.out.ext hx5).keep1 hk6 hzB hzB
            have HB6 := Lib.hid hB6
            have hU6 := HUR.out.keep1 hkr6 (fun e => hzg e.symm)
            have y0 : w6.cell? ⟨gu, 0, none⟩ = some (.string s) := (hU6).cell 0
            have y1 : w6.cell? ⟨gu, 1, none⟩ = some (.int .i64 c) := (hU6).cell 1
            have y2 : w6.cell? ⟨gu, 2, none⟩ = some (.int .i64 e) := (hU6).cell 2
            have y3 : w6.cell? ⟨gu, 3, none⟩ = some (.bool false) := (hU6).cell 3
            have hS6 := HSR.out.keep1 hkr6 (fun e => hzzs e.symm)
            have HCY := Lib.hid (HCU.out w6 hxw6)
            have HU6 := Lib.hid hU6
            have HS6 := Lib.hid hS6
            have HKR6 := Lib.hid (HKR.out.trans hkr6 (fun _ _ h => h))
            have HXW6 := Lib.hid hxw6
            have hw6s := hkr6.size
            clear hB6 hk6 hx5 hkr6 hxw6 hU6 hS6
            go_upto_region 16 with (first
              | (refine wpl_loadNd rfl _ rfl zs 0 x.h sv0 rfl HS6.out.nd ?_)
              | (refine wpl_loadNd rfl _ rfl z 0 lh (.slice (some ⟨g0, o0, none⟩) 1 sc) rfl HB6.out.nd ?_)
              | (go_at_call 63; refine HCY.out.mono ?_; rintro e w7 ⟨rfl, hx7⟩))
            try simp only [Act.put, List.setIfInBounds_toArray, List.set_cons_zero, List.set_cons_succ]
            clear y0 y1 y2 y3
            have HBS := Lib.hid (HBS0.out w7 (HXW6.out.trans hx7))
            have hL7 := hL6.ext hx7
            have hzs7 := (HS6.out.ext hx7).nd
            have HX7 := Lib.hid hx7
            have hs7 := hx7.size
            have y0 : w7.cell? ⟨gu, 0, none⟩ = some (.string s) := (HU6.out.ext HX7.out).cell 0
            have y1 : w7.cell? ⟨gu, 1, none⟩ = some (.int .i64 c) := (HU6.out.ext HX7.out).cell 1
            have y2 : w7.cell? ⟨gu, 2, none⟩ = some (.int .i64 e) := (HU6.out.ext HX7.out).cell 2
            have y3 : w7.cell? ⟨gu, 3, none⟩ = some (.bool false) := (HU6.out.ext HX7.out).cell 3
            clear hx7 hL6
            go_upto_region 17 with (first
              | (refine wpl_loadNd rfl _ rfl zs 0 x.h sv0 rfl hzs7 ?_)
              | (refine wpl_onePsB rfl _ rfl pk.d sv8 rfl ?_; intro g7 w9 hb7 hx9 e9)
              | (refine wpl_appPs rfl _ _ rfl wB wB (.slice A9 nl c9) l pk sv8 g7 1 rfl rfl (hL7.ext (hx8.trans hx9)) (by have := hx8.size; have := hx9.size; omega) (psIn_ext (hp8.near (C := wB) (by omega) (fun i hi => (hL7.ownB i hi).2)) hx9) hb7 hlim ?_; intro v8 w10 hL10 hg10)
              | (go_at_call 35; refine HBS.out.mono ?_; rintro e w8 ⟨sv8, rfl, hp8, hx8⟩))
            try simp only [Act.put, List.setIfInBounds_toArray, List.set_cons_zero, List.set_cons_succ]
            have hx9' := hx8.trans hx9
            obtain ⟨A8, c8, hv8, _⟩ := hL10.len
            obtain ⟨n8, hn8⟩ : ∃ n8, n8 = (l ++ [(pk, sv8)]).length := ⟨_, rfl⟩
            rw [← hn8] at hv8
            subst hv8
            have HN8 := Lib.hid hn8
            clear hn8
            have hB10 : Blk w10 z 27 (nodeA lh (.slice (some ⟨g0, o0, none⟩) 1 sc)) := grown_keep1 (HB6.out.ext (HX7.out.trans hx9')) hg10 (fun e => by have := (hL7.ownB z e).1; omega)
            have hk10 : Keeps (· = z) w4 w10 := (HKR6.out.trans (Keeps.of_ext (HX7.out.trans hx9')) (fun _ _ h => h)).trans ((Keeps.of_grown hg10).mono (fun k _ hk => hk)) (fun k hk1 hk2 => by have := (hL7.ownB k hk2).1; omega)
            have hn8 : n8 = nl + 1 := by have := HN8.out; have h2 := HLN.out; simp only [List.length_append, List.length_cons, List.length_nil] at this; omega
            have hnG2 : n8 + gm = G := by omega
            have HMP3 : Hid ((l ++ [(pk, sv8)]).map (·.1) ++ rndsR (fun u v => bestA (lfR s c e false) [x] u v) (tkN (lfR s c e false) x) gm lh.min lh.max kn b = RS) := Lib.hid (by rw [← HMP2.out]; simp)
            have HLN2 : Hid ((l ++ [(pk, sv8)]).length = n8) := Lib.hid HN8.out.symm
            have hmea : G - n8 < G - nl := by omega
            clear hg10 hx9' hb7 hp8 hx8 hx9 e9 hL7 hzs7 hs7 y0 y1 y2 y3 hn8
            go_wp2
            go_roundw
            case rel => exact ⟨lh, gm, kn, n8, c8, A8, l ++ [(pk, sv8)], rfl, rfl, hc4, hkl, HFL, HRP2, hgg2, hnG2, HLN2, HMP3, hL10, hB10, hk10⟩
            case measure => exact hmea
          · have q9 : ¬ (ak : Int) < (b : Int) := by omega
            have hcond : ¬ (ak < b ∨ 0 < hd.min) := by omega
            have hmp2 := HMAP.out
            rw [rnds_end hcond, List.append_nil] at hmp2
            have hP := HLL.out.node (Nat.le_refl _) ⟨0, 0, 0⟩
            rw [hmp2] at hP
            have HP := Lib.hid hP
            clear hP hmp2 hcond hlt
            go_wp2
            go_ret
            exact ⟨_, rfl, isSl_mk _ _ _, HP.out.mono hwB, HXR.out⟩
end

end Go.Proofs.YtgfknlkpdiejgaaGreatDoor
