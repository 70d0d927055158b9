/- Laws of the walk for parses taken whole: box, zero, load, store. No condition. -/
import Derived.Test.YthddlhpndaffjaaDoorPsP
import Derived.Test.YthddlhpndaffjaaDoorNodeS
import Derived.StillTailTactics
namespace Go.Proofs.YthddlhpndaffjaaDoor
open Go Go.RowKit

theorem psA_size (d : Pd) (sv : Value) : (psA d sv).size = 4 := rfl
theorem psA_get (d : Pd) (sv : Value) (i : Nat) : (psA d sv)[i]? = (psC d sv)[i]? := by simp [psA]
theorem info_ps : (Tryd.prog.info? 60).map (·.size) = some 4 := by kernel_rfl
theorem info_psA (d : Pd) (sv : Value) : (Tryd.prog.info? 60).map (·.size) = some (psA d sv).size := info_ps
theorem PsOk.sl {W : World} {n : Ps} {sv : Value} (h : PsOk W n sv) : isSl sv := by
  obtain ⟨A, c, rfl⟩ := h.shape
  exact ⟨_, _, _, rfl⟩
theorem psC_one {d : Pd} {sv : Value} (hs : isSl sv) : ∀ u ∈ psC d sv, u.oneCell' = true := by
  intro u hu
  simp only [psC, List.mem_cons, List.not_mem_nil, or_false] at hu
  rcases hu with rfl | rfl | rfl | rfl
  all_goals first | rfl | exact hs.one
theorem psA_one {d : Pd} {sv : Value} (hs : isSl sv) : (psA d sv).all (·.oneCell') = true := by
  rw [Array.all_eq_true_iff_forall_mem]
  intro x hx
  exact psC_one (d := d) hs x (by simpa [psA] using hx)

section
variable {ops : Array Oper} {rest : List Oper} {o : Oper} {a : Act} {w : World} {Q : Exit → Act → World → Prop}
/-- 'box' of a parse. -/
theorem wpl_boxPs (hgd : o.guard = none) (x : Operand) (ho : o.op = .box 60 x) (d : Pd) (sv : Value) (hx : a.eval x = psV d sv)
    (hK : ∀ g w1, Blk w1 g 60 (psA d sv) → Ext w w1 → w.heap.size ≤ g → g < w1.heap.size → wpList Tryd.prog ops Q rest (a.put o.dst (.pointer (some ⟨g, 0, none⟩))) w1) : wpList Tryd.prog ops Q (o :: rest) a w :=
  wpList_plain hgd fun _ hKK => by
    have hr : (execOp a.eval o).run Tryd.prog w = .ok (.value (.pointer (some ⟨w.heap.size, 0, none⟩))) (w.alloc (.cells (psA d sv) 60)) := by
      unfold execOp
      rw [ho]
      simp [Instr.box, hx, psV_eq, newVar, newRow, Value.cells]
    unfold Oper.wp
    rw [hr]
    exact hKK _ _ (hK _ _ (Blk.new w _ _) ((Ext.refl w).alloc _) (Nat.le_refl _) (by simp))
/-- 'alloc' of a parse: the zero. -/
theorem wpl_allocPs (hgd : o.guard = none) (ho : o.op = .alloc 60)
    (hK : ∀ g w1, Blk w1 g 60 (psA ⟨0, 0, 0⟩ (.slice none 0 0)) → Ext w w1 → w.heap.size ≤ g → g < w1.heap.size → wpList Tryd.prog ops Q rest (a.put o.dst (.pointer (some ⟨g, 0, none⟩))) w1) : wpList Tryd.prog ops Q (o :: rest) a w :=
  wpList_plain hgd fun _ hKK => by
    have hr : (execOp a.eval o).run Tryd.prog w = .ok (.value (.pointer (some ⟨w.heap.size, 0, none⟩))) (w.alloc (.cells (psA ⟨0, 0, 0⟩ (.slice none 0 0)) 60)) := by
      unfold execOp
      rw [ho]
      simp [Instr.alloc, newVar, newRow, Value.cells]
      rfl
    unfold Oper.wp
    rw [hr]
    exact hKK _ _ (hK _ _ (Blk.new w _ _) ((Ext.refl w).alloc _) (Nat.le_refl _) (by simp))
/-- The load of a whole parse. -/
theorem wpl_loadPs (hgd : o.guard = none) (x : Operand) (ho : o.op = .load 60 x) (g k : Nat) (d : Pd) (sv : Value) (hx : a.eval x = .pointer (some ⟨g, k, none⟩)) (hN : PsAt w g k d sv)
    (hK : wpList Tryd.prog ops Q rest (a.put o.dst (psV d sv)) w) : wpList Tryd.prog ops Q (o :: rest) a w :=
  wpList_load_mid hgd 60 x ho g k hx (psC d sv) _ (fun j v hv => by
    have hj : j < 4 := (List.getElem?_eq_some_iff.1 hv).1
    rw [hN j hj, hv]) Tryd.underlying60 rfl info_ps hK
/-- The load of a whole parse, guarded. -/
theorem wpl_loadPsG (x : Operand) (ho : o.op = .load 60 x) (hw : Region.wanted o (yielded ops a.tmps) = true) (g k : Nat) (d : Pd) (sv : Value) (hx : a.eval x = .pointer (some ⟨g, k, none⟩)) (hN : PsAt w g k d sv)
    (hK : wpList Tryd.prog ops Q rest (a.put o.dst (psV d sv)) w) : wpList Tryd.prog ops Q (o :: rest) a w := by
  unfold wpList
  rw [if_pos hw]
  exact .inl (wp_load_mid 60 x ho g k hx (psC d sv) _ (fun j v hv => by
    have hj : j < 4 := (List.getElem?_eq_some_iff.1 hv).1
    rw [hN j hj, hv]) Tryd.underlying60 rfl info_ps hK)
/-- The load of a whole parse in a region's quiet head. -/
theorem wpStill_loadPs {Q : Act → Prop} (x : Operand) (ho : o.op = .load 60 x) (hw : Region.wanted o (yielded ops a.tmps) = true) (g k : Nat) (d : Pd) (sv : Value) (hx : a.eval x = .pointer (some ⟨g, k, none⟩)) (hN : PsAt w g k d sv)
    (hK : wpStill Tryd.prog ops w Q rest (a.put o.dst (psV d sv))) : wpStill Tryd.prog ops w Q (o :: rest) a := by
  unfold wpStill
  rw [if_pos hw]
  have hr := run_loadAt_mid (P := Tryd.prog) w g k 60 (psC d sv) _ (fun j v hv => by
    have hj : j < 4 := (List.getElem?_eq_some_iff.1 hv).1
    rw [hN j hj, hv]) Tryd.underlying60 rfl info_ps
  unfold Oper.still execOp
  simp only [ho, hx, Sem.run_bind, Sem.run_pure, Result.andThen_ok, hr]
  rw [Oper.stillUpon_value]
  exact hK
/-- The store of a whole parse into a block of its own. -/
theorem wpl_storePs (hgd : o.guard = none) (x y : Operand) (ho : o.op = .store 60 x y) (hd : o.dst = none) (g : Nat) (d d' : Pd) (sv sv' : Value) (hx : a.eval x = .pointer (some ⟨g, 0, none⟩)) (hy : a.eval y = psV d sv) (hs : isSl sv) (hB : Blk w g 60 (psA d' sv'))
    (hK : ∀ w1, Blk w1 g 60 (psA d sv) → Keeps (· = g) w w1 → wpList Tryd.prog ops Q rest a w1) : wpList Tryd.prog ops Q (o :: rest) a w := by
  have hpa : a.put o.dst undef = a := by rw [hd]; rfl
  rw [← hpa] at hK
  refine wpList_store_row hgd _ x y ho g (psA d sv) hx hy _ (psA d' sv') hB (info_psA d sv) rfl (psA_one hs) (hK _ (setRow_heap w g _ _ _ _ hB) ⟨rfl, rfl, rfl, by simp, fun k _ hk => setRow_other w g k _ hk⟩)
end

set_option maxRecDepth 100000 in
set_option maxHeartbeats 4000000 in
theorem pleft_any : ∀ (n : Ps) (sv : Value) (m : Int) (w : World), PsOk w n sv → 0 ≤ m → m ≤ 1000000 →
    Calls Tryd.prog 65 #[psV n.d sv, .int .i64 m] w fun r w' => r = .returned (.int .i64 (pleftN n m)) ∧ Ext w w' := by
  refine Ps.ind fun d subs ih sv m w hn h0 h1 => ?_
  obtain ⟨A, c, rfl⟩ := hn.shape
  have IH := Lib.hid ih
  have HN := Lib.hid hn
  have HR := Lib.hid (by rw [pleftN] : pleftN (.mk d subs) m = pleftL subs (m - 1))
  clear ih hn
  generalize pleftN (.mk d subs) m = res at *
  simp only [Ps.d, Ps.subs] at *
  have q0 : IntKind.i64.wrap (m - 1) = m - 1 := by rw [IntKind.wrap_i64]; omega
  go_enter Tryd.func65, Tryd.ntmps65
  go_upto_region 2 with (refine wpl_boxPs rfl _ rfl d _ rfl ?_; intro b w1 hb hx1 eb sb)
  have c3 : w1.cell? ⟨b, 3, none⟩ = some (.slice A subs.length c) := hb.cell 3
  clear hb eb sb
  have hx11 := Ext.refl w1
  go_wp2
  go_loopw [1, 5] (fun mv i wr => ∃ k : Nat, k ≤ subs.length ∧ i = .int .i64 k ∧ mv = .int .i64 (pleftL (subs.take k) (m - 1)) ∧ Ext w wr ∧ Ext w1 wr) (fun _ i _ => subs.length - (intOf i).toNat)
  case atStart => exact ⟨0, Nat.zero_le _, rfl, by rw [List.take_zero, pleftL], hx1, hx11⟩
  case round =>
    obtain ⟨k, hk, rfl, rfl, hx, hx2⟩ := hrel
    have c5 := hx2.cell c3
    clear c3 hx11 hx1
    obtain ⟨hr1, hr2⟩ := pleftL_range (subs.take k) (m - 1) (by omega)
    by_cases hlt : k < subs.length
    · by_cases hge : 0 ≤ pleftL (subs.take k) (m - 1)
      · obtain ⟨g, o, sv, rfl, hat, hok⟩ := HN.out.get k hlt
        replace hat := hat.ext hx
        have hstep := pleftL_app (subs.take k) [subs[k]] (m - 1)
        rw [← take_snoc subs k hlt, pleftL_one _ _ hge] at hstep
        have HST := Lib.hid hstep
        have IHk := Lib.hid (IH.out subs[k] (List.getElem_mem hlt) sv (pleftL (subs.take k) (m - 1)) wr (hok.ext hx) hge (by omega))
        have hkb := pleftL_len (subs.take k) (m - 1) hge
        rw [List.length_take, Nat.min_eq_left hk] at hkb
        have hk6 : (k : Int) ≤ 1000000 := by omega
        have q8 : IntKind.i64.wrap ((k : Int) + 1) = ((k + 1 : Nat) : Int) := by rw [IntKind.wrap_i64]; omega
        clear hstep hok IH HN hkb
        generalize pleftL (subs.take k) (m - 1) = cur at *
        generalize pleftN subs[k] cur = res' at *
        generalize subs[k] = nk at *
        have d1 : (k : Int) < (subs.length : Int) := by omega
        go_wp2_with (first
          | (refine wpl_loadPs rfl _ rfl g (o + k * 4) _ sv rfl hat ?_)
          | (go_at_call 65; refine IHk.out.mono ?_; rintro e w' ⟨rfl, hx'⟩))
        go_roundw
        case rel => exact ⟨k + 1, by omega, by go_num, by rw [HST.out], hx.trans hx', hx2.trans hx'⟩
        case measure => simp [intOf]; omega
      · have hfin : pleftL subs (m - 1) = pleftL (subs.take k) (m - 1) := by
          conv => lhs; rw [← List.take_append_drop k subs, pleftL_app, pleftL_neg _ _ (by omega)]
        have HF := Lib.hid (HR.out.trans hfin)
        clear hfin IH HN HR
        generalize pleftL (subs.take k) (m - 1) = cur at *
        have d1 : (k : Int) < (subs.length : Int) := by omega
        have d2 : cur < 0 := by omega
        go_wp2
        go_ret
        exact ⟨by rw [HF.out]; rfl, hx⟩
    · have hkl : subs.take k = subs := List.take_of_length_le (by omega)
      rw [hkl] at hr1 hr2 ⊢
      clear hkl IH HN
      have d1 : ¬ (k : Int) < (subs.length : Int) := by omega
      go_wp2
      go_ret
      exact ⟨by rw [HR.out]; rfl, hx⟩

set_option maxRecDepth 100000 in
set_option maxHeartbeats 4000000 in
theorem pfew_any (n : Ps) (sv : Value) (m : Int) (w : World) (hn : PsOk w n sv) (h0 : 0 ≤ m) (h1 : m ≤ 1000000) :
    Calls Tryd.prog 37 #[psV n.d sv, .int .i64 m] w fun r w' => r = .returned (.bool (decide (0 ≤ pleftN n m))) ∧ Ext w w' := by
  have IH := Lib.hid (fun W (hW : Ext w W) => pleft_any n sv m W (hn.ext hW) h0 h1)
  clear hn
  generalize pleftN n m = res at *
  generalize n.d = d at *
  go_enter Tryd.func37, Tryd.ntmps37
  go_wp2_with (first
    | (refine wpl_boxPs rfl _ rfl d _ rfl ?_; intro b w1 hb hx1 eb sb)
    | (refine wpl_loadPs rfl _ rfl b 0 d _ rfl hb.ps ?_)
    | (go_at_call 65; refine (IH.out _ hx1).mono ?_; rintro e w' ⟨rfl, hx'⟩))
  go_ret
  exact ⟨rfl, hx1.trans hx'⟩

end Go.Proofs.YthddlhpndaffjaaDoor
