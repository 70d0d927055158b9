/- option.Words as a contract. Conditions: the options' patterns lie in memory; their lengths; where the error values and the library's table lie. Printed by genowd.py. -/
import Derived.Test.YtkcgbdoplhgbmaaDoorRWd
import Derived.Test.YtkcgbdoplhgbmaaDoorFTell
import Derived.Lib.IndexAny
namespace Go.Proofs.YtkcgbdoplhgbmaaDoor
open Go Go.RowKit

theorem andNot3 (x : Int) (h : -9223372036854775808 ≤ x ∧ x ≤ 9223372036854775807) : bits .andNot .i64 x 3 = 0 ↔ (0 ≤ x ∧ x ≤ 3) := by
  have e : (BitVec.ofInt 64 x &&& ~~~(BitVec.ofInt 64 3)).toNat = (x % 18446744073709551616).toNat / 4 * 4 := by
    rw [BitVec.toNat_and]
    have h3 : (~~~(BitVec.ofInt 64 3)).toNat = 18446744073709551612 := by decide
    rw [h3, BitVec.toNat_ofInt]
    have := nat_hi64_2' (x % 18446744073709551616).toNat
    rw [Nat.and_comm] at this
    rw [show ((2 ^ 64 : Nat) : Int) = 18446744073709551616 from by decide]
    omega
  have e2 : bits .andNot .i64 x 3 = IntKind.i64.wrap (((x % 18446744073709551616).toNat / 4 * 4 : Nat) : Int) := by
    rw [← e]; rfl
  rw [e2, IntKind.wrap_i64]
  omega
theorem and_one {x : Int} (h : 0 ≤ x ∧ x ≤ 3) : bits .and .i64 x 1 = x % 2 := by rcases four h with rfl | rfl | rfl | rfl <;> rfl
theorem and_two {x : Int} (h : 0 ≤ x ∧ x ≤ 3) : bits .and .i64 x 2 = x / 2 * 2 := by rcases four h with rfl | rfl | rfl | rfl <;> rfl
/-- Two texts at once. -/
theorem wpList_appT2 {w : World} {ops : Array Oper} {rest : List Oper} {o : Oper} {a : Act} {Q : Exit → Act → World → Prop} (hgd : o.guard = none) (s x : Operand)
    (ho : o.op = .call { callee := .builtin .append, args := #[s, x], argTypes := #[43, 43] }) (B : Nat) (v : Value) (ls : List ByteArray) (hs : a.eval s = v) (hown : Own1 w B 9 v (ls.map Value.string))
    (g c : Nat) (b d : ByteArray) (hx : a.eval x = .slice (some ⟨g, 0, none⟩) 2 c) (hc : w.cell? ⟨g, 0, none⟩ = some (.string b)) (hd : w.cell? ⟨g, 1, none⟩ = some (.string d)) (hl : ls.length ≤ 4000000000) (hbase : B ≤ w.heap.size)
    (h : ∀ v' w', Own1 w' B 9 v' ((ls ++ [b, d]).map Value.string) → Below B w w' → wpList Tryd.prog ops Q rest (a.put o.dst v') w') : wpList Tryd.prog ops Q (o :: rest) a w := by
  refine wpList_appK hgd s x 43 ho B 9 (.string ⟨#[]⟩) 16 Tryd.underlying43 info_str rfl v (ls.map Value.string) [.string b, .string d] hs hown (.inr ⟨⟨g, 0, none⟩, c, hx, fun j u hu => ?_⟩) (fun u hu => ?_) (by simp; omega) (by simp; omega) hbase ?_
  · match j, hu with
    | 0, hu => simp at hu; subst hu; simpa [Addr.add] using hc
    | 1, hu => simp at hu; subst hu; simpa [Addr.add] using hd
  · simp at hu
    rcases hu with rfl | rfl <;> rfl
  · intro v' w' h1 hg _ _
    exact h v' w' (by simpa using h1) ((Below.refl B w).grown hg hbase (fun k hk => (World.ownsRow.lt hown k hk).1))

/-- Flags in the order of the letters. -/
def flagP (o : Ops) : List Bool := [decide (o.fl % 2 = 1), decide (2 ≤ o.fl), o.inv, o.cnt, o.num, o.onl, o.qui, decide (o.md % 2 = 1), decide (2 ≤ o.md)]
def lettP : List UInt8 := [69, 105, 118, 99, 110, 111, 113, 120, 119]
def pickL (o : Ops) (k : Nat) : List UInt8 := (((flagP o).zip lettP).take k).filterMap fun x => if x.1 then some x.2 else none
theorem fm_cons (b : Bool) (l : UInt8) (r : List (Bool × UInt8)) : List.filterMap (fun x => if x.1 then some x.2 else none) ((b, l) :: r) = (if b = true then [l] else []) ++ List.filterMap (fun x => if x.1 then some x.2 else none) r := by cases b <;> rfl
theorem pick_all (o : Ops) : pickL o 9 = letP o := by
  unfold pickL flagP lettP letP
  simp only [List.zip_cons_cons, List.zip_nil_right, List.take_succ_cons, List.take_zero, fm_cons, List.filterMap_nil, decide_eq_true_eq, List.append_assoc, List.append_nil]
theorem pick_succ (o : Ops) (k : Nat) (hk : k < 9) : pickL o (k + 1) = pickL o k ++ if (flagP o).getD k false then [lettP.getD k 0] else [] := by
  have e : ((flagP o).zip lettP)[k]? = some ((flagP o).getD k false, lettP.getD k 0) := by
    have : k = 0 ∨ k = 1 ∨ k = 2 ∨ k = 3 ∨ k = 4 ∨ k = 5 ∨ k = 6 ∨ k = 7 ∨ k = 8 := by omega
    rcases this with rfl | rfl | rfl | rfl | rfl | rfl | rfl | rfl | rfl <;> rfl
  unfold pickL
  rw [List.take_add_one, e, List.filterMap_append]
  cases (flagP o).getD k false <;> rfl
theorem pick_len (o : Ops) (k : Nat) : (pickL o k).length ≤ 9 := by
  unfold pickL
  refine Nat.le_trans (List.length_filterMap_le _ _) ?_
  rw [List.length_take]
  exact Nat.le_trans (Nat.min_le_right _ _) (Nat.le_of_eq rfl)

/-- What Words answers. -/
def OWrR (w : World) (A : Nat → Addr) (o : Ops) (e : Ending) (w' : World) : Prop :=
  ∃ (lv : Value) (ls : List ByteArray) (ev : Value), e = .returned (.tuple #[lv, ev]) ∧ Own1 w' w.heap.size 9 lv (ls.map Value.string) ∧ ls.map byB = (if okO o then wordsP o else []) ∧ Ext w w' ∧ FErr w' A (if okO o then 0 else 19) [] ev
/-- The options but for their patterns' texts. -/
def okH (o : Ops) : Prop := (0 ≤ o.fl ∧ o.fl ≤ 3) ∧ (0 ≤ o.md ∧ o.md ≤ 3) ∧ (-1 ≤ o.most ∧ o.most ≤ 999999999) ∧ o.pats ≠ []
instance (o : Ops) : Decidable (okH o) := by unfold okH; infer_instance

/-- What is bad of the options, with so many patterns looked at. -/
def badK (o : Ops) (k : Nat) : Bool := decide (¬ okH o) || (o.pats.take k).any fun p => p.contains 10
def badO (o : Ops) : Bool := decide (¬ okO o)
theorem badK_zero (o : Ops) : badK o 0 = decide (¬ okH o) := by unfold badK; rw [List.take_zero]; simp
theorem badK_succ (o : Ops) (k : Nat) (p : List UInt8) (h : o.pats[k]? = some p) : badK o (k + 1) = (badK o k || p.contains 10) := by
  unfold badK
  rw [List.take_add_one, h, List.any_append, Bool.or_assoc]
  simp
theorem badK_all (o : Ops) (k : Nat) (h : o.pats.length ≤ k) : badK o k = badO o := by
  unfold badK badO
  rw [List.take_of_length_le h, Bool.eq_iff_iff, Bool.or_eq_true, decide_eq_true_eq, decide_eq_true_eq, List.any_eq_true]
  unfold okH okO
  simp only [List.contains_iff_mem]
  constructor
  · rintro (h | ⟨p, hp, hq⟩) hh
    · exact h ⟨hh.1, hh.2.1, hh.2.2.1, hh.2.2.2.1⟩
    · exact hh.2.2.2.2 p hp hq
  · intro h
    by_cases h1 : okH o
    · right
      unfold okH at h1
      by_cases h2 : ∃ p ∈ o.pats, (10 : UInt8) ∈ p
      · obtain ⟨p, hp, hq⟩ := h2
        exact ⟨p, hp, hq⟩
      · exact absurd ⟨h1.1, h1.2.1, h1.2.2.1, h1.2.2.2, fun p hp hq => h2 ⟨p, hp, hq⟩⟩ h
    · exact .inl h1

set_option maxRecDepth 100000 in
set_option maxHeartbeats 16000000 in
theorem owords_any (o : Ops) (pv : Value) (ws : List ByteArray) (A : Nat → Addr) (w : World) (hW : RdT w pv ws) (hp : ws.map byB = o.pats) (hl : totP (ws.map byB) ≤ 1000000000)
    (hm : -9223372036854775808 ≤ o.most ∧ o.most ≤ 9223372036854775807) (hf : -9223372036854775808 ≤ o.fl ∧ o.fl ≤ 9223372036854775807) (hd : -9223372036854775808 ≤ o.md ∧ o.md ≤ 9223372036854775807)
    (hE : ErrsAt w A) (hV : LibV w) :
    Calls Tryd.prog 53 #[opV o pv] w (OWrR w A o) := by
  have HW := Lib.hid hW
  have HP := Lib.hid hp
  have HM := Lib.hid hm
  have HE := Lib.hid hE
  have HV := Lib.hid hV
  have HF3 := Lib.hid (andNot3 o.fl hf)
  have HD3 := Lib.hid (andNot3 o.md hd)
  have hll : ws.length ≤ 1000000000 := by
    have := tot_len (ws.map byB)
    rw [List.length_map] at this
    omega
  have HPN : Hid (o.pats = [] ↔ ws.length = 0) := Lib.hid (by rw [← hp, List.map_eq_nil_iff, List.length_eq_zero_iff])
  obtain ⟨AA, c, rfl, hlc, hcs⟩ := hW
  have HCS := Lib.hid hcs
  clear hcs hp hl hm hf hd hE hV
  go_enter Tryd.func53, Tryd.ntmps53
  go_upto_region 1 with (refine wpl_boxOp rfl _ rfl o (.slice AA ws.length c) rfl ?_; intro g w1 hg hx1 hg0 hgl)
  have HX := Lib.hid hx1
  obtain ⟨c0, c1, c2, c3, c4, c5, c6, c7, c8⟩ := hg.opCells
  have hsz1 := hx1.size
  have HCC := Lib.hid (And.intro c0 (And.intro c1 (And.intro c2 (And.intro c3 (And.intro c4 (And.intro c5 c6))))))
  have HC7 := Lib.hid c7
  have HC8 := Lib.hid c8
  clear hg hx1
  go_cut [4] (fun bv wx => bv = .bool (badK o 0) ∧ w1 = wx)
  case first =>
    by_cases q0 : bits .andNot .i64 o.fl 3 = 0
    case neg =>
      have HB : Hid (badK o 0 = true) := Lib.hid (by rw [badK_zero, decide_eq_true_eq]; exact fun h => q0 (HF3.out.2 h.1))
      have t0 : (bits .andNot .i64 o.fl 3 != 0) = true := by rw [bne_iff_ne]; exact q0
      go_wp2
      go_meet
      case rel => exact ⟨by rw [HB.out], rfl⟩
    have t0 : (bits .andNot .i64 o.fl 3 != 0) = false := by rw [bne_eq_false_iff_eq]; exact q0
    by_cases q1 : bits .andNot .i64 o.md 3 = 0
    case neg =>
      have HB : Hid (badK o 0 = true) := Lib.hid (by rw [badK_zero, decide_eq_true_eq]; exact fun h => q1 (HD3.out.2 h.2.1))
      have t1 : (bits .andNot .i64 o.md 3 != 0) = true := by rw [bne_iff_ne]; exact q1
      go_wp2
      go_meet
      case rel => exact ⟨by rw [HB.out], rfl⟩
    have t1 : (bits .andNot .i64 o.md 3 != 0) = false := by rw [bne_eq_false_iff_eq]; exact q1
    by_cases q2 : o.most < -1
    · have HB : Hid (badK o 0 = true) := Lib.hid (by rw [badK_zero, decide_eq_true_eq]; exact fun h => by have := h.2.2.1.1; omega)
      go_wp2
      go_meet
      case rel => exact ⟨by rw [HB.out], rfl⟩
    by_cases q3 : 999999999 < o.most
    · have HB : Hid (badK o 0 = true) := Lib.hid (by rw [badK_zero, decide_eq_true_eq]; exact fun h => by have := h.2.2.1.2; omega)
      go_wp2
      go_meet
      case rel => exact ⟨by rw [HB.out], rfl⟩
    by_cases q4 : ws.length = 0
    · have HB : Hid (badK o 0 = true) := Lib.hid (by rw [badK_zero, decide_eq_true_eq]; exact fun h => h.2.2.2 (HPN.out.2 q4))
      have t4 : ((ws.length : Int) == 0) = true := by rw [beq_iff_eq]; omega
      clear q4
      go_wp2
      go_meet
      case rel => exact ⟨by rw [HB.out], rfl⟩
    · have HB : Hid (badK o 0 = false) := Lib.hid (by
        rw [badK_zero, decide_eq_false_iff_not, Decidable.not_not]
        exact ⟨HF3.out.1 q0, HD3.out.1 q1, by omega, fun h => q4 (HPN.out.1 h)⟩)
      have t4 : ((ws.length : Int) == 0) = false := by rw [beq_eq_false_iff_ne]; omega
      go_wp2
      go_meet
      case rel => exact ⟨by rw [HB.out], rfl⟩
  obtain ⟨rfl, rfl⟩ := hcut
  clear c0 c1 c2 c3 c4 c5 c6 c7 c8
  have HSZ : Hid (∀ j, (h : j < ws.length) → byB ws[j] ∈ o.pats) := Lib.hid (fun j h => by rw [← HP.out]; exact List.mem_map_of_mem (List.getElem_mem h))
  go_step
  go_step
  go_cut [4] (fun bv wx => bv = .bool (badO o) ∧ w1 = wx)
  case first =>
    have c8 := HC8.out
    go_wp2
    go_loopw [4, 43] (fun bv iv wr => ∃ k : Nat, k ≤ ws.length ∧ iv = .int .i64 k ∧ bv = .bool (badK o k) ∧ w1 = wr) (fun _ iv _ => ws.length - (intOf iv).toNat)
    case atStart => exact ⟨0, Nat.zero_le _, rfl, rfl, rfl⟩
    case round =>
      obtain ⟨k, hk, rfl, rfl, rfl⟩ := hrel
      by_cases hlt : k < ws.length
      · obtain ⟨gw, off, rfl, hcell⟩ := HCS.out k hlt
        have hgx : ws.getD k ⟨#[]⟩ = ws[k] := by rw [List.getD_eq_getElem?_getD, List.getElem?_eq_getElem hlt]; rfl
        rw [hgx] at hcell
        replace hcell := HX.out.cell hcell
        have q9 : (k : Int) < (ws.length : Int) := by omega
        have HQ : Hid (badK o (k + 1) = (badK o k || (byB ws[k]).contains 10)) := Lib.hid (badK_succ o k _ (by rw [← HP.out, List.getElem?_map, List.getElem?_eq_getElem hlt]; rfl))
        have HCO := Lib.hid (fun W => Tryd.strings_Contains_one ws[k] 10 W)
        have HCB : Hid ((byB ws[k]).contains 10 = decide (0 ≤ Lib.indexByte ws[k].data.toList 10)) := Lib.hid (Lib.contains_iff_indexByte (byB ws[k]) 10)
        clear hgx
        generalize badK o k = B at *
        generalize ws[k] = x at *
        cases B with
        | true =>
          go_wp2
          go_roundw
          case rel => exact ⟨k + 1, hlt, by go_num, by rw [HQ.out]; rfl, trivial⟩
          case measure => simp [intOf]; omega
        | false =>
          go_wp2_with (go_at_call 51; refine (HCO.out _).mono ?_; rintro e w5 ⟨rfl, rfl⟩)
          go_roundw
          case rel => exact ⟨k + 1, hlt, by go_num, by rw [HQ.out, HCB.out]; rfl, trivial⟩
          case measure => simp [intOf]; omega
      · have q9 : ¬ (k : Int) < (ws.length : Int) := by omega
        have HQ : Hid (badK o k = badO o) := Lib.hid (badK_all o k (by rw [← HP.out, List.length_map]; omega))
        go_wp2
        go_meet
        case rel => exact ⟨by rw [HQ.out], rfl⟩
  case rest =>
  obtain ⟨rfl, rfl⟩ := hcut
  clear HF3 HD3 HPN HSZ
  by_cases hok : okO o
  case neg =>
    have HN : Hid (badO o = true) := Lib.hid (by unfold badO; rw [decide_eq_true_eq]; exact hok)
    rw [HN.out]
    have HNO := Lib.hid hok
    have v19 := (HE.out.ext HX.out).var 18 (by omega)
    simp only [gb, gbs, List.getD_cons_zero, List.getD_cons_succ] at v19
    have HE1 := Lib.hid (HE.out.ext HX.out)
    have p19 := cell_plus v19
    clear v19 hok
    go_upto_region 8 with fail
    refine wp_region_plus (by kernel_rfl) (by kernel_rfl) ?_
    repeat (go_big_quiet_step (fail))
    refine wpQuiet_nil ?_
    intro y
    have hxy := plus_ext w1 y
    repeat (first | go_skip | go_guarded | go_step | go_upon)
    go_ret2
    exact ⟨_, [], _, rfl, Own1.nil _ _ _, by rw [if_neg HNO.out]; rfl, HX.out.trans hxy, by rw [if_neg HNO.out]; exact FErr.ext hxy (.inr ⟨by decide, A 18, rfl, HE1.out.blk 18 (by omega), fun _ _ => rfl, fun h => by omega⟩)⟩
  have HN : Hid (badO o = false) := Lib.hid (by unfold badO; rw [decide_eq_false_iff_not]; exact fun h => h hok)
  rw [HN.out]
  have HOK := Lib.hid hok
  obtain ⟨c0, c1, c2, c3, c4, c5, c6⟩ : w1.cell? ⟨g, 0, none⟩ = some (.int .i64 o.fl) ∧ w1.cell? ⟨g, 1, none⟩ = some (.int .i64 o.md) ∧ w1.cell? ⟨g, 2, none⟩ = some (.bool o.inv) ∧ w1.cell? ⟨g, 3, none⟩ = some (.bool o.cnt) ∧ w1.cell? ⟨g, 4, none⟩ = some (.bool o.num) ∧ w1.cell? ⟨g, 5, none⟩ = some (.bool o.onl) ∧ w1.cell? ⟨g, 6, none⟩ = some (.bool o.qui) := HCC.out
  have t1 : (bits .and .i64 o.fl 1 != 0) = decide (o.fl % 2 = 1) := by rw [and_one hok.1, Bool.eq_iff_iff, bne_iff_ne, decide_eq_true_eq]; omega
  have t2 : (bits .and .i64 o.fl 2 != 0) = decide (2 ≤ o.fl) := by have := hok.1; rw [and_two hok.1, Bool.eq_iff_iff, bne_iff_ne, decide_eq_true_eq]; omega
  have t3 : (bits .and .i64 o.md 1 != 0) = decide (o.md % 2 = 1) := by rw [and_one hok.2.1, Bool.eq_iff_iff, bne_iff_ne, decide_eq_true_eq]; omega
  have t4 : (bits .and .i64 o.md 2 != 0) = decide (2 ≤ o.md) := by have := hok.2.1; rw [and_two hok.2.1, Bool.eq_iff_iff, bne_iff_ne, decide_eq_true_eq]; omega
  obtain ⟨b1, hb1⟩ : ∃ b, b = decide (o.fl % 2 = 1) := ⟨_, rfl⟩
  obtain ⟨b2, hb2⟩ : ∃ b, b = decide (2 ≤ o.fl) := ⟨_, rfl⟩
  obtain ⟨b3, hb3⟩ : ∃ b, b = decide (o.md % 2 = 1) := ⟨_, rfl⟩
  obtain ⟨b4, hb4⟩ : ∃ b, b = decide (2 ≤ o.md) := ⟨_, rfl⟩
  rw [← hb1] at t1
  rw [← hb2] at t2
  rw [← hb3] at t3
  rw [← hb4] at t4
  have HFL : Hid (flagP o = [b1, b2, o.inv, o.cnt, o.num, o.onl, o.qui, b3, b4]) := Lib.hid (by unfold flagP; rw [hb1, hb2, hb3, hb4])
  clear hb1 hb2 hb3 hb4 hok
  go_upto_region 9 with fail
  go_cut [7] (fun v wx => ∃ gb, v = .slice (some ⟨gb, 0, none⟩) 9 9 ∧ Blk wx gb 4 ((flagP o).map Value.bool).toArray ∧ Ext w1 wx)
  case first =>
    go_wp2
    go_meet
    case rel => exact ⟨w1.heap.size, rfl, by rw [HFL.out]; exact Blk.new w1 _ _, (Ext.refl w1).alloc _⟩
  obtain ⟨gb, rfl, hbl, hx2⟩ := hcut
  obtain ⟨w2, hw2⟩ : ∃ w, w = wc := ⟨_, rfl⟩
  subst hw2
  have HX2 := Lib.hid hx2
  have HBL : Hid (∀ k, k < 9 → w2.cell? ⟨gb, k, none⟩ = some (.bool ((flagP o).getD k false))) := Lib.hid (fun k hk => by
    rw [hbl.cell, List.getElem?_toArray, List.getElem?_map, List.getD_eq_getElem?_getD, List.getElem?_eq_getElem (show k < (flagP o).length from hk)]
    rfl)
  clear hbl hx2 t1 t2 t3 t4 HFL c0 c1 c2 c3 c4 c5 c6
  go_upto_region 10 with fail
  go_cut [8] (fun sv wx => sv = .string ⟨#[45]⟩ ∧ w2 = wx)
  case first =>
    go_wp2
    go_meet
    case rel => exact ⟨rfl, rfl⟩
  obtain ⟨rfl, rfl⟩ := hcut
  go_step
  go_step
  go_cut [8] (fun sv wx => ∃ S : ByteArray, sv = .string S ∧ Hid (byB S = 45 :: letP o) ∧ w2 = wx)
  case first =>
    go_wp2
    go_loopw [8, 84] (fun sv iv wr => ∃ (k : Nat) (S : ByteArray), k ≤ 9 ∧ iv = .int .i64 k ∧ sv = .string S ∧ Hid (byB S = 45 :: pickL o k) ∧ w2 = wr) (fun _ iv _ => 9 - (intOf iv).toNat)
    case atStart => exact ⟨0, ⟨#[45]⟩, Nat.zero_le _, rfl, rfl, Lib.hid rfl, rfl⟩
    case round =>
      obtain ⟨k, S, hk, rfl, rfl, HS, rfl⟩ := hrel
      by_cases hlt : k < 9
      · have hcell := HBL.out k hlt
        have hps := HS.out
        have q9 : (k : Int) < 9 := by omega
        have hSl : S.size ≤ 10 := by
          have h1 := congrArg List.length HS.out
          have h2 := pick_len o k
          rw [byB_len, List.length_cons] at h1
          omega
        have hex : (⟨#[69, 105, 118, 99, 110, 111, 113, 120, 119]⟩ : ByteArray).extract k (k + 1) = ⟨#[lettP.getD k 0]⟩ := by
          have : k = 0 ∨ k = 1 ∨ k = 2 ∨ k = 3 ∨ k = 4 ∨ k = 5 ∨ k = 6 ∨ k = 7 ∨ k = 8 := by omega
          rcases this with rfl | rfl | rfl | rfl | rfl | rfl | rfl | rfl | rfl <;> decide
        have ha : ∀ W, (Op.stringOp .add S ((⟨#[69, 105, 118, 99, 110, 111, 113, 120, 119]⟩ : ByteArray).extract k (k + 1))).run Tryd.prog W = .ok (.string (S ++ ⟨#[lettP.getD k 0]⟩)) W := fun W => by
          rw [hex]
          exact run_string_add_sum W S _ (by show S.size + 1 ≤ _; omega)
        have HBA : Hid (byB (S ++ ⟨#[lettP.getD k 0]⟩) = byB S ++ [lettP.getD k 0]) := Lib.hid (by
          show (S ++ (⟨#[lettP.getD k 0]⟩ : ByteArray)).data.toList = _
          simp [ByteArray.data_append, byB])
        have HPS := Lib.hid (pick_succ o k hlt)
        clear hex hps hSl
        cases hfl : (flagP o).getD k false with
        | true =>
          rw [hfl] at hcell HPS
          have HQ : Hid (byB (S ++ ⟨#[lettP.getD k 0]⟩) = 45 :: pickL o (k + 1)) := Lib.hid (by rw [HPS.out, if_pos rfl, HBA.out, HS.out]; rfl)
          clear hfl
          generalize S ++ (⟨#[lettP.getD k 0]⟩ : ByteArray) = S2 at *
          go_wp2
          go_roundw
          case rel => exact ⟨k + 1, S2, hlt, by go_num, rfl, HQ, trivial⟩
          case measure => simp [intOf]; omega
        | false =>
          rw [hfl] at hcell HPS
          have HQ : Hid (byB S = 45 :: pickL o (k + 1)) := Lib.hid (by rw [HPS.out, if_neg (by decide), List.append_nil]; exact HS.out)
          clear hfl ha
          go_wp2
          go_roundw
          case rel => exact ⟨k + 1, S, hlt, by go_num, rfl, HQ, trivial⟩
          case measure => simp [intOf]; omega
      · obtain rfl : k = 9 := by omega
        have HQ : Hid (byB S = 45 :: letP o) := Lib.hid (by rw [← pick_all]; exact HS.out)
        clear HS
        go_wp2
        go_meet
        case rel => exact ⟨S, rfl, HQ, rfl⟩
  case rest =>
  obtain ⟨S, rfl, HS, rfl⟩ := hcut
  clear HBL
  go_upto_region 17 with fail
  go_cut [11] (fun lv wx => Hid (Own1 wx w1.heap.size 9 lv (([] : List ByteArray).map Value.string)) ∧ w2 = wx)
  case first =>
    go_wp2
    go_meet
    case rel => exact ⟨Lib.hid (Own1.nil _ _ _), rfl⟩
  obtain ⟨HO0, rfl⟩ := hcut
  have hsz2 := HX2.out.size
  go_step
  go_step
  go_cut [11] (fun lv wx => ∃ ls : List ByteArray, Hid (Own1 wx w1.heap.size 9 lv (ls.map Value.string)) ∧ Hid (ls.map byB = if letP o = [] then [] else [45 :: letP o]) ∧ ls.length ≤ 1 ∧ Ext w1 wx)
  case first =>
    have hSt : S.toList = 45 :: letP o := by rw [ByteArray.toList_eq]; exact HS.out
    by_cases q : letP o = []
    · have HQ : Hid (([] : List ByteArray).map byB = if letP o = [] then [] else [45 :: letP o]) := Lib.hid (by rw [if_pos q]; rfl)
      have t : (S.toList == [45]) = true := by rw [hSt, q]; rfl
      have t2 : (S.toList != [45]) = false := by rw [hSt, q]; rfl
      clear q hSt
      go_wp2
      go_meet
      case rel => exact ⟨[], HO0, HQ, by simp, HX2.out⟩
    · have HQ : Hid ((([] : List ByteArray) ++ [S]).map byB = if letP o = [] then [] else [45 :: letP o]) := Lib.hid (by rw [if_neg q, ← HS.out]; rfl)
      have t2 : (S.toList != [45]) = true := by rw [bne_iff_ne, hSt]; intro h; injection h with _ h; exact q h
      have t : (S.toList == [45]) = false := by simpa using t2
      have t3 : ¬ S.toList = [45] := by simpa using t2
      clear q hSt
      go_wp2_with (at_builtin; refine wpList_appT rfl (.tmp 99) (.tmp 101) rfl w1.heap.size u11 [] rfl (HO0.out.ext ((Ext.refl w2).alloc _)) w2.heap.size 1 S rfl (by rw [(Blk.new w2 _ _).cell]; rfl) (by simp) (by simp; omega) ?_; intro v5 w5 hO5 hb5)
      go_meet
      case rel => exact ⟨_, Lib.hid hO5, HQ, by simp, (HX2.out.alloc _).of_below hb5 (Nat.le_refl _)⟩
  case rest =>
  obtain ⟨ls1, HO1, HS1, hs1, hx3⟩ := hcut
  obtain ⟨w3, hw3⟩ : ∃ w, w = wc := ⟨_, rfl⟩
  subst hw3
  have HX3 := Lib.hid hx3
  have hsz3 := hx3.size
  have c7 := hx3.cell HC7.out
  clear hx3 HO0 HS HX2 hsz2
  go_step
  go_step
  go_cut [11] (fun lv wx => ∃ ls : List ByteArray, Hid (Own1 wx w1.heap.size 9 lv (ls.map Value.string)) ∧ Hid (ls.map byB = (if letP o = [] then [] else [45 :: letP o]) ++ (if 0 ≤ o.most then [[45, 109], Lib.itoa o.most] else [])) ∧ ls.length ≤ 3 ∧ Ext w1 wx)
  case first =>
    by_cases q : 0 ≤ o.most
    · have HQ : Hid ((ls1 ++ [(⟨#[45, 109]⟩ : ByteArray), (⟨(Lib.itoa o.most).toArray⟩ : ByteArray)]).map byB = (if letP o = [] then [] else [45 :: letP o]) ++ (if 0 ≤ o.most then [[45, 109], Lib.itoa o.most] else [])) := Lib.hid (by rw [if_pos q, List.map_append, HS1.out]; rfl)
      have HDE := Lib.hid (fun W (hW : Ext w1 W) => (Tryd.strconv_Itoa o.most HM.out.1 HM.out.2 W ((HV.out.ext (HX.out.trans hW)).pw)).mono (R' := fun e w' => e = .returned (.string ⟨(Lib.itoa o.most).toArray⟩) ∧ Ext W w') (fun e w' ⟨h1, k, os, h2⟩ => ⟨h1, by rw [h2]; exact ext_grow _ _ _⟩))
      clear HS1
      go_wp2_with (first
        | (go_at_call 75; refine (HDE.out _ HX3.out).mono ?_; rintro e w6 ⟨rfl, hx6⟩)
        | (at_builtin; refine wpList_appT2 rfl (.tmp 106) (.tmp 110) rfl w1.heap.size u11 ls1 rfl ((HO1.out.ext hx6).ext ((Ext.refl _).alloc _)) w6.heap.size 2 ⟨#[45, 109]⟩ ⟨(Lib.itoa o.most).toArray⟩ rfl (by rw [(Blk.new w6 _ _).cell]; rfl) (by rw [(Blk.new w6 _ _).cell]; rfl) (by omega) (by have := hx6.size; simp; omega) ?_; intro v7 w7 hO7 hb7))
      go_meet
      case rel => exact ⟨_, Lib.hid hO7, HQ, by rw [List.length_append]; simp only [List.length_cons, List.length_nil]; omega, ((HX3.out.trans hx6).alloc _).of_below hb7 (Nat.le_refl _)⟩
    · have HQ : Hid (ls1.map byB = (if letP o = [] then [] else [45 :: letP o]) ++ (if 0 ≤ o.most then [[45, 109], Lib.itoa o.most] else [])) := Lib.hid (by rw [if_neg q, List.append_nil]; exact HS1.out)
      go_wp2
      go_meet
      case rel => exact ⟨ls1, HO1, HQ, by omega, HX3.out⟩
  case rest =>
  obtain ⟨ls2, HO2, HS2, hs2, hx4⟩ := hcut
  obtain ⟨w4, hw4⟩ : ∃ w, w = wc := ⟨_, rfl⟩
  subst hw4
  have HX4 := Lib.hid hx4
  have c8 := hx4.cell HC8.out
  clear hx4 HO1 HS1 hs1 HX3 hsz3 c7
  go_wp2
  go_loopw [11, 115] (fun lv iv wr => ∃ (k : Nat) (ls : List ByteArray), k ≤ ws.length ∧ iv = .int .i64 k ∧ Hid (Own1 wr w1.heap.size 9 lv (ls.map Value.string)) ∧ Hid (ls.map byB = ((if letP o = [] then [] else [45 :: letP o]) ++ (if 0 ≤ o.most then [[45, 109], Lib.itoa o.most] else [])) ++ patW (o.pats.take k)) ∧ ls.length ≤ 3 + 2 * k ∧ Ext w1 wr) (fun _ iv _ => ws.length - (intOf iv).toNat)
  case atStart => exact ⟨0, ls2, Nat.zero_le _, rfl, HO2, Lib.hid (by rw [HS2.out, List.take_zero]; exact (List.append_nil _).symm), by omega, HX4.out⟩
  case round =>
    obtain ⟨k, ls, hk, rfl, HOL, HSL, hls, hx5⟩ := hrel
    obtain ⟨w5, hw5⟩ : ∃ w, w = wr := ⟨_, rfl⟩
    subst hw5
    have HX5 := Lib.hid hx5
    have hsz5 := hx5.size
    clear hx5 HO2 HS2 HX4
    by_cases hlt : k < ws.length
    · obtain ⟨gw, off, rfl, hcell⟩ := HCS.out k hlt
      have hgx : ws.getD k ⟨#[]⟩ = ws[k] := by rw [List.getD_eq_getElem?_getD, List.getElem?_eq_getElem hlt]; rfl
      rw [hgx] at hcell
      replace hcell := (HX.out.trans HX5.out).cell hcell
      have q9 : (k : Int) < (ws.length : Int) := by omega
      have HQ : Hid ((ls ++ [(⟨#[45, 101]⟩ : ByteArray), ws[k]]).map byB = ((if letP o = [] then [] else [45 :: letP o]) ++ (if 0 ≤ o.most then [[45, 109], Lib.itoa o.most] else [])) ++ patW (o.pats.take (k + 1))) := Lib.hid (by
        have hkp : k < o.pats.length := by rw [← HP.out, List.length_map]; exact hlt
        have e : o.pats[k] = byB ws[k] := by simp only [← HP.out, List.getElem_map]
        rw [List.take_succ_eq_append_getElem hkp, patW_snoc, e, List.map_append, HSL.out, ← List.append_assoc]
        rfl)
      clear hgx HSL
      generalize ws[k] = x at *
      go_wp2_with (at_builtin; refine wpList_appT2 rfl (.tmp 119) (.tmp 121) rfl w1.heap.size u11 ls rfl (HOL.out.ext ((Ext.refl w5).alloc _)) w5.heap.size 2 ⟨#[45, 101]⟩ x rfl (by rw [(Blk.new w5 _ _).cell]; rfl) (by rw [(Blk.new w5 _ _).cell]; rfl) (by omega) (by simp; omega) ?_; intro v7 w7 hO7 hb7)
      go_roundw
      case rel => exact ⟨k + 1, _, hlt, by go_num, Lib.hid hO7, HQ, by rw [List.length_append]; simp only [List.length_cons, List.length_nil]; omega, (HX5.out.alloc _).of_below hb7 (Nat.le_refl _)⟩
      case measure => simp [intOf]; omega
    · have q9 : ¬ (k : Int) < (ws.length : Int) := by omega
      have HQ : Hid (ls.map byB = wordsP o) := Lib.hid (by rw [HSL.out, List.take_of_length_le (by rw [← HP.out, List.length_map]; omega)]; rfl)
      clear HSL
      go_upto_region 27 with fail
      repeat (first | go_skip | go_guarded | go_step | go_upon)
      go_ret2
      exact ⟨_, ls, .nilIface, rfl, HOL.out.mono hsz1, by rw [if_pos HOK.out]; exact HQ.out, HX.out.trans HX5.out, by rw [if_pos HOK.out]; exact .inl ⟨rfl, rfl⟩⟩

end Go.Proofs.YtkcgbdoplhgbmaaDoor
