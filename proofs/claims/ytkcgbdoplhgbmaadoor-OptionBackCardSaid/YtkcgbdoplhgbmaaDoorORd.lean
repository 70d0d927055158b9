/- option.reader in memory; its add and argument as contracts. Conditions: the lengths; the cell of the library's own number. -/
import Derived.Test.YtkcgbdoplhgbmaaDoorOSp
import Derived.Test.YtkcgbdoplhgbmaaDoorKeeps
import Derived.Test.YtkcgbdoplhgbmaaDoorMid
namespace Go.Proofs.YtkcgbdoplhgbmaaDoor
open Go Go.RowKit

/-- The reader's cells. -/
def rdC (wv : Value) (i : Nat) (o : Ops) (pv : Value) (t : Nat) : Array Value :=
  #[wv, .int .i64 i, .int .i64 o.fl, .int .i64 o.md, .bool o.inv, .bool o.cnt, .bool o.num, .bool o.onl, .bool o.qui, .int .i64 o.most, pv, .int .i64 t]
/-- The reader in memory, its patterns its own. -/
def RdSt (W : World) (B b : Nat) (wv : Value) (i : Nat) (o : Ops) (t : Nat) : Prop :=
  ∃ (pv : Value) (ps : List ByteArray), B ≤ b ∧ Blk W b 87 (rdC wv i o pv t) ∧ Own1 W B 9 pv (ps.map Value.string) ∧ ps.map byB = o.pats
theorem RdSt.ext {W W' : World} {B b : Nat} {wv : Value} {i : Nat} {o : Ops} {t : Nat} (h : RdSt W B b wv i o t) (hx : Ext W W') : RdSt W' B b wv i o t := by
  obtain ⟨pv, ps, h1, h2, h3, h4⟩ := h
  exact ⟨pv, ps, h1, h2.ext hx, h3.ext hx, h4⟩
section
variable {P : Program} {ops : Array Oper} {md : Region.Mode} {Q : Exit → Act → World → Prop} {S : World → Prop} {m : Nat}
/-- Number m, and what comes behind it. -/
theorem wpAnyM_now {o : Oper} {f : Nat} {listed : Array Bool} {a : Act} {w : World} (hr : Region.ready md ops listed = [m]) (ho : ops[m]? = some o)
    (h : wpList P ops (stepQ fun a' w' => wpAny P md ops Q f (listed.setIfInBounds m true) a' w') [o] a w) : wpAnyM P md ops Q S m (f + 1) listed a w := by
  refine ⟨fun h0 => (by rw [hr] at h0; cases h0), fun j hj => ?_⟩
  rw [hr, List.mem_singleton] at hj
  subst hj
  exact wpOp_of_list ho (fun a' w' h1 => by rw [if_pos rfl]; exact h1) h
/-- The one that comes up next. -/
theorem wpAny_next {i : Nat} {o : Oper} {f : Nat} {listed : Array Bool} {a : Act} {w : World} (hr : Region.ready md ops listed = [i]) (ho : ops[i]? = some o)
    (h : wpList P ops (stepQ fun a' w' => wpAny P md ops Q f (listed.setIfInBounds i true) a' w') [o] a w) : wpAny P md ops Q (f + 1) listed a w := by
  refine ⟨fun h0 => (by rw [hr] at h0; cases h0), fun j hj => ?_⟩
  rw [hr, List.mem_singleton] at hj
  subst hj
  exact wpOp_of_list ho (fun a' w' h1 => h1) h
/-- The last one. -/
theorem wpAny_end {i : Nat} {o : Oper} {f : Nat} {listed : Array Bool} {a : Act} {w : World} (hr : Region.ready md ops listed = [i]) (ho : ops[i]? = some o) (hr2 : Region.ready md ops (listed.setIfInBounds i true) = [])
    (h : wpList P ops Q [o] a w) : wpAny P md ops Q (f + 1) listed a w := by
  refine ⟨fun h0 => (by rw [hr] at h0; cases h0), fun j hj => ?_⟩
  rw [hr, List.mem_singleton] at hj
  subst hj
  refine wpOp_of_last ho (fun a3 w3 h3 => ?_) h
  cases f with
  | zero => exact ⟨hr2, h3⟩
  | succ f => exact ⟨fun _ => h3, by rw [hr2]; simp⟩
end

set_option maxRecDepth 100000 in
set_option maxHeartbeats 4000000 in
theorem add_any (W : World) (B b : Nat) (wv : Value) (i : Nat) (o : Ops) (t : Nat) (h : RdSt W B b wv i o t) (s : ByteArray) (m : Int) (hB : B ≤ W.heap.size) (hs : o.pats.length + s.size ≤ 1000000000) (ht : t ≤ 1000000000)
    (hm : W.cell? ⟨22, 0, none⟩ = some (.int .i64 m)) :
    Calls Tryd.prog 68 #[.pointer (some ⟨b, 0, none⟩), .string s] W fun e w' => e = .returned (.tuple #[]) ∧ RdSt w' B b wv i { o with pats := o.pats ++ partsP (byB s) } (t + 1) ∧ Keeps (B ≤ ·) W w' := by
  obtain ⟨pv, ps, h1, h2, h3, h4⟩ := h
  have hpl : ps.length + s.size ≤ 1000000000 := by rw [← h4, List.length_map] at hs; exact hs
  have HPL := Lib.hid hpl
  have H2 := Lib.hid h2
  have H3 := Lib.hid h3
  have c10 : W.cell? ⟨b, 10, none⟩ = some pv := h2.cell 10
  have HSP := Lib.hid (fun W' (hx : Ext W W') => split_any s m W' (by omega) (hx.cell hm))
  clear h2 h3 hs hm hpl
  go_enter Tryd.func68, Tryd.ntmps68
  go_upto_region 0 with fail
  refine wp_region_mid (fun W' => Ext W W') 8 (by kernel_rfl) ?_
  refine wpAnyM_pure (i := 0) rfl (by kernel_rfl) (by kernel_rfl) (by kernel_rfl) (by decide) (fun _ _ _ h => h) (Ext.refl W).drew rfl (fun W => by go_simp; try rfl) ?_
  simp only [Act.put, List.setIfInBounds_toArray]
  refine wpAnyM_pure (i := 1) rfl (by kernel_rfl) (by kernel_rfl) (by kernel_rfl) (by decide) (fun _ _ _ h => h) (Ext.refl W).drew rfl (fun W => by go_simp; try rfl) ?_
  simp only [Act.put]
  refine wpAnyM_pure (i := 2) rfl (by kernel_rfl) (by kernel_rfl) (by kernel_rfl) (by decide) (fun _ _ _ h => h) (Ext.refl W).drew rfl (fun W => by go_simp; try rfl) ?_
  simp only [Act.put]
  refine wpAnyM_pure (i := 3) rfl (by kernel_rfl) (by kernel_rfl) (by kernel_rfl) (by decide) (fun _ _ _ h => h) (Ext.refl W).drew rfl (fun W => by go_simp; try rfl) ?_
  simp only [Act.put]
  refine wpAnyM_pure (i := 4) rfl (by kernel_rfl) (by kernel_rfl) (by kernel_rfl) (by decide) (fun _ _ _ h => h) (Ext.refl W).drew rfl (fun W => by go_simp; try rfl) ?_
  simp only [Act.put]
  refine wpAnyM_take (i := 5) (v := pv) [8] rfl (by kernel_rfl) (by kernel_rfl) (by kernel_rfl) (by kernel_rfl) (fun _ _ _ h => h) (Ext.refl W).drew (yieldsIf_value rfl (fun W' hW => by have k5' := Ext.cell hW c10; go_simp; try rfl)) ?_
  simp only [Act.put]
  refine wpAnyM_pure (i := 6) rfl (by kernel_rfl) (by kernel_rfl) (by kernel_rfl) (by decide) (fun _ _ _ h => h) (Ext.refl W).drew rfl (fun W => by go_simp; try rfl) ?_
  simp only [Act.put]
  have HXW := Lib.hid (HSP.out _ (Ext.refl W).drew)
  refine wpAnyM_step (i := 7) (by kernel_rfl) rfl (by decide) ?_
  go_wp2_with (go_at_call 94; refine HXW.out.mono ?_; rintro e w4 ⟨ls, hls, rfl, rfl⟩)
  have hx : Ext W (W.alloc (.cells (ls.map Value.string).toArray 9)).drew := ((Ext.refl W).alloc _).drew
  have hbl : Blk (W.alloc (.cells (ls.map Value.string).toArray 9)).drew W.heap.size 9 (ls.map Value.string).toArray := (Blk.new W _ _).drew
  refine stepQ_ok ⟨hx, ?_⟩
  generalize (W.alloc (.cells (ls.map Value.string).toArray 9)).drew = W' at *
  have hlp : ls.length ≤ s.size + 1 := by
    have := congrArg List.length hls
    rw [List.length_map] at this
    have h9 := partsP_len (byB s)
    rw [byB_len] at h9
    omega
  have HLP := Lib.hid hlp
  have HLS := Lib.hid hls
  have hB' := Nat.le_trans hB hx.size
  have hbb := H2.out.ext hx
  have hap : pv.ownBlock ≠ some b := (H3.out.ext hx).apartB hbb (by decide)
  refine wpAnyM_now (by kernel_rfl) rfl ?_
  refine wpList_appK rfl (.tmp 9) (.tmp 11) 43 rfl B 9 (.string ⟨#[]⟩) 16 Tryd.underlying43 info_str rfl pv (ps.map Value.string) (ls.map Value.string) rfl (H3.out.ext hx) (.inr ⟨⟨W.heap.size, 0, none⟩, ls.length, (by rw [List.length_map]; rfl), (by intro j u hu; rw [show (⟨W.heap.size, 0, none⟩ : Addr).add j = ⟨W.heap.size, j, none⟩ from (by unfold Addr.add; split <;> simp_all), hbl.cell, List.getElem?_toArray]; exact hu)⟩) (by intro u hu; obtain ⟨x, _, rfl⟩ := List.mem_map.1 hu; rfl) (by have := HPL.out; have := HLP.out; simp; omega) (by have := HPL.out; have := HLP.out; simp; omega) hB' ?_
  intro v4 w4 own4 hg4 hb4 hn4
  have hK4 := (Keeps.refl (fun k => pv.ownBlock = some k) W').grown hg4 (fun k hk => .inr hk)
  have hb5 := hbb.keeps hK4 hap
  have HOW := Lib.hid (H3.out.own)
  have hK5 : Keeps (B ≤ ·) W w4 := (Keeps.of_ext (F := (B ≤ ·)) hx).trans hK4 (fun k _ hk => (HOW.out k hk).1)
  have d10 : w4.cell? ⟨b, 10, none⟩ = some pv := hb5.cell 10
  have f10 := hb5.frozen 10
  obtain ⟨A4, cc4, rfl, hcc4⟩ := own4.shape
  refine stepQ_end ?_
  simp only [Act.put, List.setIfInBounds_toArray]
  clear hg4 hb4 hn4 hK4 hap hbb hbl hx hlp hls c10
  have e4 : (ps.map Value.string ++ ls.map Value.string).length = ps.length + ls.length := by simp
  rw [e4] at own4 hcc4 ⊢
  refine wpAny_next (i := 9) (by kernel_rfl) rfl ?_
  go_wp2
  refine stepQ_ok ?_
  refine wpAny_next (i := 10) (by kernel_rfl) rfl ?_
  go_wp2
  refine stepQ_ok ?_
  refine wpAny_next (i := 11) (by kernel_rfl) rfl ?_
  go_wp2
  refine stepQ_ok ?_
  refine wpAny_end (i := 12) (by kernel_rfl) rfl (by kernel_rfl) ?_
  have hb6 := hb5.set 10 (.slice A4 (ps.length + ls.length) cc4)
  have hK6 : Keeps (B ≤ ·) W (w4.setCell ⟨b, 10, none⟩ (.slice A4 (ps.length + ls.length) cc4)) := hK5.setCell (p := ⟨b, 10, none⟩) (.inr h1) _
  have hO6 : Own1 (w4.setCell ⟨b, 10, none⟩ (.slice A4 (ps.length + ls.length) cc4)) B 9 (.slice A4 (ps.length + ls.length) cc4) (ps.map Value.string ++ ls.map Value.string) := own4.keeps ((Keeps.refl (· = b) w4).setCell (p := ⟨b, 10, none⟩) (.inr rfl) _) (fun k hk e => own4.apartB hb5 (by decide) (by subst e; exact hk))
  have hc5 : w4.cell? ⟨b, 10, none⟩ = some pv := d10
  go_upto_region 1 with fail
  generalize w4.setCell ⟨b, 10, none⟩ (.slice A4 (ps.length + ls.length) cc4) = w5 at *
  have d11 : w5.cell? ⟨b, 11, none⟩ = some (.int .i64 t) := hb6.cell 11
  have f11 := hb6.frozen 11
  have q1 : wrap64 ((t : Int) + 1) = ((t + 1 : Nat) : Int) := by unfold wrap64; omega
  have hb7 := hb6.set 11 (.int .i64 ((t + 1 : Nat) : Int))
  have hK7 : Keeps (B ≤ ·) W (w5.setCell ⟨b, 11, none⟩ (.int .i64 ((t + 1 : Nat) : Int))) := hK6.setCell (p := ⟨b, 11, none⟩) (.inr h1) _
  have hO7 : Own1 (w5.setCell ⟨b, 11, none⟩ (.int .i64 ((t + 1 : Nat) : Int))) B 9 (.slice A4 (ps.length + ls.length) cc4) (ps.map Value.string ++ ls.map Value.string) := hO6.keeps ((Keeps.refl (· = b) w5).setCell (p := ⟨b, 11, none⟩) (.inr rfl) _) (fun k hk e => hO6.apartB hb6 (by decide) (by subst e; exact hk))
  have hR : RdSt (w5.setCell ⟨b, 11, none⟩ (.int .i64 ((t + 1 : Nat) : Int))) B b wv i { o with pats := o.pats ++ partsP (byB s) } (t + 1) := ⟨_, ps ++ ls, h1, hb7, by rw [List.map_append]; exact hO7, by rw [List.map_append, h4, HLS.out]⟩
  have HR := Lib.hid (And.intro hR hK7)
  clear hb6 hK6 hO6 hK5 own4 hb5 hb7 hK7 hO7 hR d10 f10 hc5
  go_wp2
  go_end0
  rw [show ((t : Int) + 1) = ((t + 1 : Nat) : Int) by omega]
  exact ⟨rfl, HR.out⟩

/-! ### argument -/
/-- What argument answers: the text, was there one, was the next word taken. -/
def argP (r : List UInt8) (nx : Option (List UInt8)) : Option (List UInt8 × Bool) := if r ≠ [] then some (r, false) else nx.map fun a => (a, true)
theorem RdSt.setI {W : World} {B b : Nat} {wv : Value} {i : Nat} {o : Ops} {t : Nat} (h : RdSt W B b wv i o t) (j : Nat) :
    RdSt (W.setCell ⟨b, 1, none⟩ (.int .i64 j)) B b wv j o t ∧ Keeps (B ≤ ·) W (W.setCell ⟨b, 1, none⟩ (.int .i64 j)) := by
  obtain ⟨pv, ps, h1, h2, h3, h4⟩ := h
  exact ⟨⟨pv, ps, h1, h2.set 1 _, h3.keeps ((Keeps.refl (· = b) W).setCell (p := ⟨b, 1, none⟩) (.inr rfl) _) (fun k hk e => h3.apartB h2 (by decide) (by subst e; exact hk)), h4⟩, (Keeps.refl (B ≤ ·) W).setCell (p := ⟨b, 1, none⟩) (.inr h1) _⟩

/-- What argument leaves. -/
def ArgR (W : World) (B b : Nat) (wv : Value) (i : Nat) (o : Ops) (t : Nat) (R : Option (List UInt8 × Bool)) (e : Ending) (w' : World) : Prop :=
  ∃ a : ByteArray, e = .returned (.tuple #[.string a, .bool R.isSome]) ∧ Keeps (B ≤ ·) W w' ∧ ∀ x, R = some x → byB a = x.1 ∧ RdSt w' B b wv (if x.2 then i + 1 else i) o t

set_option maxRecDepth 100000 in
set_option maxHeartbeats 4000000 in
theorem argument_any (w0 W : World) (b : Nat) (wv : Value) (ws : List ByteArray) (i : Nat) (o : Ops) (t : Nat) (h : RdSt W w0.heap.size b wv i o t) (hW : RdT w0 wv ws) (hx0 : Ext w0 W) (hl : ws.length ≤ 1000000000) (hi : i < ws.length) (r : ByteArray) :
    Calls Tryd.prog 92 #[.pointer (some ⟨b, 0, none⟩), .string r] W (ArgR W w0.heap.size b wv i o t (argP (byB r) (ws[i + 1]?.map byB))) := by
  obtain ⟨A, c, rfl, hlc, hcs⟩ := hW
  obtain ⟨pv, ps, h1, h2, h3, h4⟩ := h
  have H0 : Hid (RdSt W w0.heap.size b (.slice A ws.length c) i o t) := Lib.hid ⟨pv, ps, h1, h2, h3, h4⟩
  have c0 : W.cell? ⟨b, 0, none⟩ = some (.slice A ws.length c) := h2.cell 0
  have c1 : W.cell? ⟨b, 1, none⟩ = some (.int .i64 i) := h2.cell 1
  have f1 := h2.frozen 1
  have hlc' := hlc
  have hi1 : wrap64 ((i : Int) + 1) = (i : Int) + 1 := by unfold wrap64; omega
  by_cases hr : byB r ≠ []
  · have HA := Lib.hid (show argP (byB r) (ws[i + 1]?.map byB) = some (byB r, false) from if_pos hr)
    have t1 : r.toList.isEmpty = false := by
      rw [ByteArray.toList_eq, List.isEmpty_eq_false_iff]
      exact hr
    clear h2 h3 h4 hr hcs hlc c0 c1 f1 hlc' hi1
    rw [HA.out]
    go_enter Tryd.func92, Tryd.ntmps92
    go_wp2
    go_ret2
    exact ⟨r, rfl, Keeps.refl _ _, fun x hx => by cases hx; exact ⟨rfl, H0.out⟩⟩
  · have hr' : byB r = [] := by simpa using hr
    have t1 : r.toList.isEmpty = true := by
      rw [ByteArray.toList_eq, List.isEmpty_iff]
      exact hr'
    have p0 := cell_plus c0
    have p1 := cell_plus c1
    have q1 : IntKind.i64.wrap ((i : Int) + 1) = (i : Int) + 1 := by rw [IntKind.wrap_i64]; omega
    by_cases hlt : i + 1 < ws.length
    · obtain ⟨g, off, rfl, hcell⟩ := hcs (i + 1) hlt
      have HA := Lib.hid (show argP (byB r) (ws[i + 1]?.map byB) = some (byB ws[i + 1], true) by unfold argP; rw [if_neg hr, List.getElem?_eq_getElem hlt]; rfl)
      rw [HA.out]
      have hx : ws.getD (i + 1) ⟨#[]⟩ = ws[i + 1] := by rw [List.getD_eq_getElem?_getD, List.getElem?_eq_getElem hlt]; rfl
      rw [hx] at hcell
      generalize ws[i + 1] = x at *
      have hge : ¬ ((ws.length : Int) ≤ (i : Int) + 1) := by omega
      have hbk : g ≠ b := by
        have h8 := World.block_lt_of_cell? _ _ hcell
        have h9 : g < w0.heap.size := h8
        omega
      replace hcell := hx0.cell hcell
      clear h2 h3 h4 hr hr' hcs hlc hx c0 c1
      go_enter Tryd.func92, Tryd.ntmps92
      go_upto_region 3 with fail
      refine wp_region_plus (by kernel_rfl) (by kernel_rfl) ?_
      repeat (go_big_quiet_step (fail))
      refine wpQuiet_nil ?_
      intro y
      have hcy := (plus_ext W y).cell hcell
      have hx5 := plus_ext W y
      have h5 := (H0.out.ext hx5).setI (i + 1)
      rw [show ((i + 1 : Nat) : Int) = (i : Int) + 1 by omega] at h5
      have c1 := p1 y
      have c0 := p0 y
      have f1' : (plus W y).frozen? ⟨b, 1, none⟩ = false := by
        obtain ⟨_, _, _, h9, _⟩ := H0.out.ext hx5
        exact h9.frozen 1
      have hc6 : ((plus W y).setCell ⟨b, 1, none⟩ (.int .i64 ((i : Int) + 1))).cell? ⟨g, off + (i + 1), none⟩ = some (.string x) := (World.cell?_setCell_other _ _ _ _ (by intro e; exact hbk (by injection e with e1; exact e1.symm))).trans hcy
      clear p0 p1
      generalize plus W y = W5 at *
      go_upto_region 6 with fail
      obtain ⟨h6, k6⟩ := h5
      have hk6 := (Keeps.of_ext (F := (w0.heap.size ≤ ·)) hx5).trans k6 (fun _ _ h => h)
      have H6 := Lib.hid h6
      obtain ⟨pv6, ps6, _, hb6, _⟩ := h6
      generalize W5.setCell ⟨b, 1, none⟩ (.int .i64 ((i : Int) + 1)) = W6 at *
      have d0 : W6.cell? ⟨b, 0, none⟩ = some (.slice (some ⟨g, off, none⟩) ws.length c) := hb6.cell 0
      have d1 : W6.cell? ⟨b, 1, none⟩ = some (.int .i64 ((i + 1 : Nat) : Int)) := hb6.cell 1
      rw [show ((i + 1 : Nat) : Int) = (i : Int) + 1 by omega] at d1
      have p0 := cell_plus d0
      have p1 := cell_plus d1
      have p2 := cell_plus hc6
      clear d0 d1 hc6 c0 c1 f1 f1' hb6 k6 hcy
      refine wp_region_plus (by kernel_rfl) (by kernel_rfl) ?_
      repeat (go_big_quiet_step (fail))
      refine wpQuiet_nil ?_
      intro y
      go_wp2
      go_ret2
      exact ⟨x, rfl, hk6.ext' (plus_ext _ y), fun z hz => by cases hz; exact ⟨rfl, H6.out.ext (plus_ext _ y)⟩⟩
    · have HA := Lib.hid (show argP (byB r) (ws[i + 1]?.map byB) = none by unfold argP; rw [if_neg hr, List.getElem?_eq_none (by omega)]; rfl)
      have hge : ((ws.length : Int) ≤ (i : Int) + 1) := by omega
      rw [HA.out]
      clear h2 h3 h4 hr hr' hcs hlc c0 c1
      go_enter Tryd.func92, Tryd.ntmps92
      go_upto_region 3 with fail
      refine wp_region_plus (by kernel_rfl) (by kernel_rfl) ?_
      repeat (go_big_quiet_step (fail))
      refine wpQuiet_nil ?_
      intro y
      go_wp2
      go_ret2
      exact ⟨⟨#[]⟩, rfl, Keeps.of_ext (plus_ext W y), fun x hx => by cases hx⟩

end Go.Proofs.YtkcgbdoplhgbmaaDoor
