/- trawlref28.Words as a contract. Conditions: the options' patterns lie in memory; their lengths. Printed by genrwd.py. -/
import Derived.Test.YtkcgbdoplhgbmaaDoorOSa
import Derived.Test.YtkcgbdoplhgbmaaDoorOSp
import Derived.Test.YtkcgbdoplhgbmaaDoorOPr
import Derived.Test.YtkcgbdoplhgbmaaDoorOMu
import Derived.Test.YtkcgbdoplhgbmaaDoorDcm
namespace Go.Proofs.YtkcgbdoplhgbmaaDoor
open Go Go.RowKit

/-- 'out = append(out, x)' of a text onto a list that the call made. -/
theorem wpList_appT {w : World} {ops : Array Oper} {rest : List Oper} {o : Oper} {a : Act} {Q : Exit → Act → World → Prop} (hgd : o.guard = none) (s x : Operand)
    (ho : o.op = .call { callee := .builtin .append, args := #[s, x], argTypes := #[43, 43] }) (B : Nat) (v : Value) (ls : List ByteArray) (hs : a.eval s = v) (hown : Own1 w B 9 v (ls.map Value.string))
    (g c : Nat) (b : ByteArray) (hx : a.eval x = .slice (some ⟨g, 0, none⟩) 1 c) (hc : w.cell? ⟨g, 0, none⟩ = some (.string b)) (hl : ls.length ≤ 4000000000) (hbase : B ≤ w.heap.size)
    (h : ∀ v' w', Own1 w' B 9 v' ((ls ++ [b]).map Value.string) → Below B w w' → wpList Tryd.prog ops Q rest (a.put o.dst v') w') : wpList Tryd.prog ops Q (o :: rest) a w :=
  wpList_app1 hgd s x 43 ho B 9 (.string ⟨#[]⟩) 16 Tryd.underlying43 info_str rfl v _ hs hown g c (.string b) hx hc rfl (by simp; omega) (by simp; omega) hbase fun v' w' h1 h2 => h v' w' (by simpa using h1) h2

theorem patW_snoc (a : List (List UInt8)) (x : List UInt8) : patW (a ++ [x]) = patW a ++ [[45, 101], x] := by
  unfold patW
  simp
theorem parts_one (s : List UInt8) : 1 < (partsP s).length ↔ (10 : UInt8) ∈ s := by
  rw [parts_count, ← List.count_pos_iff]
  omega
theorem add_lit (l q : List UInt8) (hl : l.length ≤ 1000000) (hq : q.length ≤ 1000000) : ∀ W, (binOp .add 9 (strV l) (.string ⟨q.toArray⟩)).run Tryd.prog W = .ok (strV (l ++ q)) W := fun W => add_strV l q (by omega) W

/-- What Words answers. -/
def WrdR (w : World) (o : Ops) (e : Ending) (w' : World) : Prop :=
  ∃ (lv : Value) (ls : List ByteArray), e = .returned (.tuple #[lv, .int .i64 (if okO o then 0 else 19)]) ∧ Own1 w' w.heap.size 9 lv (ls.map Value.string) ∧ ls.map byB = (if okO o then wordsP o else []) ∧ Ext w w'
theorem wrd_no {w w' : World} {o : Ops} (h : ¬ okO o) (hx : Ext w w') : WrdR w o (.returned (.tuple #[.slice none 0 0, .int .i64 19])) w' :=
  ⟨_, [], by rw [if_neg h], Own1.nil _ _ _, by rw [if_neg h]; rfl, hx⟩

set_option maxRecDepth 100000 in
set_option maxHeartbeats 16000000 in
theorem rwrd_any (o : Ops) (pv : Value) (ws : List ByteArray) (w : World) (hW : RdT w pv ws) (hp : ws.map byB = o.pats) (hl : totP (ws.map byB) ≤ 1000000000)
    (hm : -9223372036854775808 ≤ o.most ∧ o.most ≤ 9223372036854775807) :
    Calls Tryd.prog 54 #[opV o pv] w (WrdR w o) := by
  have HW := Lib.hid hW
  have HP := Lib.hid hp
  have HM := Lib.hid hm
  have hll : ws.length ≤ 1000000000 := by
    have := tot_len (ws.map byB)
    rw [List.length_map] at this
    omega
  have HT := Lib.hid hl
  have HSZ : Hid (∀ j, (h : j < ws.length) → ws[j].size ≤ 1000000000) := Lib.hid (fun j h => by
    have h1 := totP_take (ws.map byB) (j + 1)
    rw [List.take_succ_eq_append_getElem (by simpa using h), totP_snoc] at h1
    simp only [List.getElem_map, byB_len] at h1
    have := HT.out
    omega)
  obtain ⟨A, c, rfl, hlc, hcs⟩ := hW
  have HCS := Lib.hid hcs
  clear hcs hp hl hm
  go_enter Tryd.func54, Tryd.ntmps54
  go_upto_region 1 with (refine wpl_boxOp rfl _ rfl o (.slice A ws.length c) rfl ?_; intro g w1 hg hx1 hg0 hgl)
  have HX := Lib.hid hx1
  obtain ⟨c0, c1, c2, c3, c4, c5, c6, c7, c8⟩ := hg.opCells
  have hsz1 := hx1.size
  have HC7 := Lib.hid c7
  have HC8 := Lib.hid c8
  clear hg hx1
  by_cases q0 : o.fl < 0
  · have HN : Hid (¬ okO o) := Lib.hid fun hok => by have := hok.1.1; omega
    go_wp2
    go_ret2
    exact wrd_no HN.out HX.out
  by_cases q1 : 3 < o.fl
  · have HN : Hid (¬ okO o) := Lib.hid fun hok => by have := hok.1.2; omega
    go_wp2
    go_ret2
    exact wrd_no HN.out HX.out
  by_cases q2 : o.md < 0
  · have HN : Hid (¬ okO o) := Lib.hid fun hok => by have := hok.2.1.1; omega
    go_wp2
    go_ret2
    exact wrd_no HN.out HX.out
  by_cases q3 : 3 < o.md
  · have HN : Hid (¬ okO o) := Lib.hid fun hok => by have := hok.2.1.2; omega
    go_wp2
    go_ret2
    exact wrd_no HN.out HX.out
  by_cases q4 : o.most < -1
  · have HN : Hid (¬ okO o) := Lib.hid fun hok => by have := hok.2.2.1.1; omega
    go_wp2
    go_ret2
    exact wrd_no HN.out HX.out
  by_cases q5 : 999999999 < o.most
  · have HN : Hid (¬ okO o) := Lib.hid fun hok => by have := hok.2.2.1.2; omega
    go_wp2
    go_ret2
    exact wrd_no HN.out HX.out
  by_cases q6 : ws.length = 0
  · have HN : Hid (¬ okO o) := Lib.hid fun hok => hok.2.2.2.1 (by rw [← HP.out, List.map_eq_nil_iff]; exact List.eq_nil_of_length_eq_zero q6)
    have t6 : ((ws.length : Int) == 0) = true := by rw [beq_iff_eq]; omega
    go_wp2
    go_ret2
    exact wrd_no HN.out HX.out
  have t6 : ((ws.length : Int) == 0) = false := by rw [beq_eq_false_iff_ne]; omega
  go_upto_region 3 with fail
  go_wp2
  go_loopw [4] (fun iv wr => ∃ k : Nat, k ≤ ws.length ∧ iv = .int .i64 k ∧ Ext w1 wr ∧ Hid (∀ j, (h : j < ws.length) → j < k → (10 : UInt8) ∉ byB ws[j])) (fun iv _ => ws.length - (intOf iv).toNat)
  case atStart => exact ⟨0, Nat.zero_le _, rfl, Ext.refl _, Lib.hid fun j _ h => absurd h (Nat.not_lt_zero j)⟩
  case round =>
    obtain ⟨k, hk, rfl, hx2, HC⟩ := hrel
    obtain ⟨w2, hw2⟩ : ∃ w, w = wr := ⟨_, rfl⟩
    subst hw2
    have HX2 := Lib.hid (HX.out.trans hx2)
    have HX12 := Lib.hid hx2
    replace c0 := hx2.cell c0
    replace c1 := hx2.cell c1
    replace c2 := hx2.cell c2
    replace c3 := hx2.cell c3
    replace c4 := hx2.cell c4
    replace c5 := hx2.cell c5
    replace c6 := hx2.cell c6
    replace c7 := hx2.cell c7
    replace c8 := hx2.cell c8
    clear hx2
    by_cases hlt : k < ws.length
    · obtain ⟨gw, off, rfl, hcell⟩ := HCS.out k hlt
      have hgx : ws.getD k ⟨#[]⟩ = ws[k] := by rw [List.getD_eq_getElem?_getD, List.getElem?_eq_getElem hlt]; rfl
      rw [hgx] at hcell
      replace hcell := HX2.out.cell hcell
      have HRP := Lib.hid (rparts_any ws[k] w2 (HSZ.out k hlt))
      have hw1 : Hid (wrap64 ((k : Int) + 1) = (k : Int) + 1) := Lib.hid (by unfold wrap64; omega)
      have q9 : (k : Int) < (ws.length : Int) := by omega
      by_cases hten : (10 : UInt8) ∈ byB ws[k]
      · have HN : Hid (¬ okO o) := Lib.hid fun hok => hok.2.2.2.2 (byB ws[k]) (by rw [← HP.out]; exact List.mem_map_of_mem (List.getElem_mem hlt)) hten
        have HPL := Lib.hid ((parts_one _).2 hten)
        clear hgx hten HC c0 c1 c2 c3 c4 c5 c6 c7
        generalize ws[k] = x at *
        go_wp2_with (go_at_call 70; refine HRP.out.mono ?_; rintro e w5 ⟨lv, ls, rfl, hls, how, hx5⟩; obtain ⟨A5, c5', rfl, _⟩ := how.shape; have hll5 : 1 < ls.length := (by have h1 := HPL.out; rw [← hls, List.length_map] at h1; exact h1); have hq5 : (1 : Int) < (((ls.map Value.string).length : Nat) : Int) := (by rw [List.length_map]; omega))
        go_ret2
        exact wrd_no HN.out (HX2.out.trans hx5)
      · have HPL := Lib.hid (fun h => hten ((parts_one _).1 h))
        have HC2 : Hid (∀ j, (h : j < ws.length) → j < k + 1 → (10 : UInt8) ∉ byB ws[j]) := Lib.hid fun j h hj => by
          rcases Nat.lt_or_ge j k with h1 | h1
          · exact HC.out j h h1
          · obtain rfl : j = k := by omega
            exact hten
        clear hgx hten HC c0 c1 c2 c3 c4 c5 c6 c7
        generalize ws[k] = x at *
        go_wp2_with (go_at_call 70; refine HRP.out.mono ?_; rintro e w5 ⟨lv, ls, rfl, hls, how, hx5⟩; obtain ⟨A5, c5', rfl, _⟩ := how.shape; have hll5 : ¬ 1 < ls.length := (by have h1 := HPL.out; rw [← hls, List.length_map] at h1; exact h1); have hq5 : ¬ (1 : Int) < (((ls.map Value.string).length : Nat) : Int) := (by rw [List.length_map]; omega))
        go_roundw
        case rel => exact ⟨k + 1, hlt, by go_num, HX12.out.trans hx5, HC2⟩
        case measure => simp [intOf]; omega
    · have q9 : ¬ (k : Int) < (ws.length : Int) := by omega
      have HOK : Hid (okO o) := Lib.hid ⟨by omega, by omega, by omega, fun h => q6 (by have := congrArg List.length HP.out; rw [List.length_map, h] at this; exact this), fun p hp => by
        rw [← HP.out] at hp
        obtain ⟨x, hx, rfl⟩ := List.mem_map.1 hp
        obtain ⟨j, hj, rfl⟩ := List.mem_iff_getElem.1 hx
        exact HC.out j hj (by omega)⟩
      have r01 : 0 ≤ o.fl ∧ o.fl ≤ 3 := by omega
      have r02 : 0 ≤ o.md ∧ o.md ≤ 3 := by omega
      have HWW := Lib.hid (HW.out.ext HX2.out)
      clear HC q0 q1 q2 q3 q4 q5 q6 t6
      go_upto_region 9 with fail
      clear q9 hk HSZ
      go_cut [6] (fun sv wx => ∃ l : List UInt8, sv = strV l ∧ Hid (l = []) ∧ l.length ≤ 0 ∧ w2 = wx)
      case first =>
        go_wp2
        go_meet
        case rel => exact ⟨[], rfl, Lib.hid rfl, Nat.le_refl _, rfl⟩
      obtain ⟨l0, rfl, HL0, hl0, rfl⟩ := hcut
      go_step
      go_step
      go_cut [6] (fun sv wx => ∃ l : List UInt8, sv = strV l ∧ Hid (l = l0 ++ if o.fl % 2 = 1 then [69] else []) ∧ l.length ≤ 1 ∧ w2 = wx)
      case first =>
        have ha := add_lit l0 [69] (by first | omega | simp) (by simp)
        simp only [List.toArray] at ha
        by_cases q : o.fl % 2 = 1
        · have HQ : Hid (l0 ++ [69] = l0 ++ if o.fl % 2 = 1 then [69] else []) := Lib.hid (by rw [if_pos q])
          have t : (((o.fl).tmod 2) == 1) = true := by rw [beq_iff_eq, Int.tmod_eq_emod_of_nonneg (by omega)]; exact q
          go_wp2
          go_meet
          case rel => exact ⟨_, rfl, HQ, by rw [List.length_append]; simp only [List.length_cons, List.length_nil]; omega, rfl⟩
        · have HQ : Hid (l0 = l0 ++ if o.fl % 2 = 1 then [69] else []) := Lib.hid (by rw [if_neg q, List.append_nil])
          have t : (((o.fl).tmod 2) == 1) = false := by rw [beq_eq_false_iff_ne, Int.tmod_eq_emod_of_nonneg (by omega)]; exact q
          go_wp2
          go_meet
          case rel => exact ⟨_, rfl, HQ, by omega, rfl⟩
      case rest =>
      obtain ⟨l1, rfl, HL1, hl1, rfl⟩ := hcut
      go_step
      go_step
      go_cut [6] (fun sv wx => ∃ l : List UInt8, sv = strV l ∧ Hid (l = l1 ++ if 2 ≤ o.fl then [105] else []) ∧ l.length ≤ 2 ∧ w2 = wx)
      case first =>
        have ha := add_lit l1 [105] (by first | omega | simp) (by simp)
        simp only [List.toArray] at ha
        by_cases q : 2 ≤ o.fl
        · have HQ : Hid (l1 ++ [105] = l1 ++ if 2 ≤ o.fl then [105] else []) := Lib.hid (by rw [if_pos q])
          go_wp2
          go_meet
          case rel => exact ⟨_, rfl, HQ, by rw [List.length_append]; simp only [List.length_cons, List.length_nil]; omega, rfl⟩
        · have HQ : Hid (l1 = l1 ++ if 2 ≤ o.fl then [105] else []) := Lib.hid (by rw [if_neg q, List.append_nil])
          go_wp2
          go_meet
          case rel => exact ⟨_, rfl, HQ, by omega, rfl⟩
      case rest =>
      obtain ⟨l2, rfl, HL2, hl2, rfl⟩ := hcut
      go_step
      go_step
      go_cut [6] (fun sv wx => ∃ l : List UInt8, sv = strV l ∧ Hid (l = l2 ++ if o.inv = true then [118] else []) ∧ l.length ≤ 3 ∧ w2 = wx)
      case first =>
        have ha := add_lit l2 [118] (by first | omega | simp) (by simp)
        simp only [List.toArray] at ha
        by_cases q : o.inv = true
        · have HQ : Hid (l2 ++ [118] = l2 ++ if o.inv = true then [118] else []) := Lib.hid (by rw [if_pos q])
          go_wp2
          go_meet
          case rel => exact ⟨_, rfl, HQ, by rw [List.length_append]; simp only [List.length_cons, List.length_nil]; omega, rfl⟩
        · have HQ : Hid (l2 = l2 ++ if o.inv = true then [118] else []) := Lib.hid (by rw [if_neg q, List.append_nil])
          have q' : o.inv = false := by simpa using q
          go_wp2
          go_meet
          case rel => exact ⟨_, rfl, HQ, by omega, rfl⟩
      case rest =>
      obtain ⟨l3, rfl, HL3, hl3, rfl⟩ := hcut
      go_step
      go_step
      go_cut [6] (fun sv wx => ∃ l : List UInt8, sv = strV l ∧ Hid (l = l3 ++ if o.cnt = true then [99] else []) ∧ l.length ≤ 4 ∧ w2 = wx)
      case first =>
        have ha := add_lit l3 [99] (by first | omega | simp) (by simp)
        simp only [List.toArray] at ha
        by_cases q : o.cnt = true
        · have HQ : Hid (l3 ++ [99] = l3 ++ if o.cnt = true then [99] else []) := Lib.hid (by rw [if_pos q])
          go_wp2
          go_meet
          case rel => exact ⟨_, rfl, HQ, by rw [List.length_append]; simp only [List.length_cons, List.length_nil]; omega, rfl⟩
        · have HQ : Hid (l3 = l3 ++ if o.cnt = true then [99] else []) := Lib.hid (by rw [if_neg q, List.append_nil])
          have q' : o.cnt = false := by simpa using q
          go_wp2
          go_meet
          case rel => exact ⟨_, rfl, HQ, by omega, rfl⟩
      case rest =>
      obtain ⟨l4, rfl, HL4, hl4, rfl⟩ := hcut
      go_step
      go_step
      go_cut [6] (fun sv wx => ∃ l : List UInt8, sv = strV l ∧ Hid (l = l4 ++ if o.num = true then [110] else []) ∧ l.length ≤ 5 ∧ w2 = wx)
      case first =>
        have ha := add_lit l4 [110] (by first | omega | simp) (by simp)
        simp only [List.toArray] at ha
        by_cases q : o.num = true
        · have HQ : Hid (l4 ++ [110] = l4 ++ if o.num = true then [110] else []) := Lib.hid (by rw [if_pos q])
          go_wp2
          go_meet
          case rel => exact ⟨_, rfl, HQ, by rw [List.length_append]; simp only [List.length_cons, List.length_nil]; omega, rfl⟩
        · have HQ : Hid (l4 = l4 ++ if o.num = true then [110] else []) := Lib.hid (by rw [if_neg q, List.append_nil])
          have q' : o.num = false := by simpa using q
          go_wp2
          go_meet
          case rel => exact ⟨_, rfl, HQ, by omega, rfl⟩
      case rest =>
      obtain ⟨l5, rfl, HL5, hl5, rfl⟩ := hcut
      go_step
      go_step
      go_cut [6] (fun sv wx => ∃ l : List UInt8, sv = strV l ∧ Hid (l = l5 ++ if o.onl = true then [111] else []) ∧ l.length ≤ 6 ∧ w2 = wx)
      case first =>
        have ha := add_lit l5 [111] (by first | omega | simp) (by simp)
        simp only [List.toArray] at ha
        by_cases q : o.onl = true
        · have HQ : Hid (l5 ++ [111] = l5 ++ if o.onl = true then [111] else []) := Lib.hid (by rw [if_pos q])
          go_wp2
          go_meet
          case rel => exact ⟨_, rfl, HQ, by rw [List.length_append]; simp only [List.length_cons, List.length_nil]; omega, rfl⟩
        · have HQ : Hid (l5 = l5 ++ if o.onl = true then [111] else []) := Lib.hid (by rw [if_neg q, List.append_nil])
          have q' : o.onl = false := by simpa using q
          go_wp2
          go_meet
          case rel => exact ⟨_, rfl, HQ, by omega, rfl⟩
      case rest =>
      obtain ⟨l6, rfl, HL6, hl6, rfl⟩ := hcut
      go_step
      go_step
      go_cut [6] (fun sv wx => ∃ l : List UInt8, sv = strV l ∧ Hid (l = l6 ++ if o.qui = true then [113] else []) ∧ l.length ≤ 7 ∧ w2 = wx)
      case first =>
        have ha := add_lit l6 [113] (by first | omega | simp) (by simp)
        simp only [List.toArray] at ha
        by_cases q : o.qui = true
        · have HQ : Hid (l6 ++ [113] = l6 ++ if o.qui = true then [113] else []) := Lib.hid (by rw [if_pos q])
          go_wp2
          go_meet
          case rel => exact ⟨_, rfl, HQ, by rw [List.length_append]; simp only [List.length_cons, List.length_nil]; omega, rfl⟩
        · have HQ : Hid (l6 = l6 ++ if o.qui = true then [113] else []) := Lib.hid (by rw [if_neg q, List.append_nil])
          have q' : o.qui = false := by simpa using q
          go_wp2
          go_meet
          case rel => exact ⟨_, rfl, HQ, by omega, rfl⟩
      case rest =>
      obtain ⟨l7, rfl, HL7, hl7, rfl⟩ := hcut
      go_step
      go_step
      go_cut [6] (fun sv wx => ∃ l : List UInt8, sv = strV l ∧ Hid (l = l7 ++ if o.md % 2 = 1 then [120] else []) ∧ l.length ≤ 8 ∧ w2 = wx)
      case first =>
        have ha := add_lit l7 [120] (by first | omega | simp) (by simp)
        simp only [List.toArray] at ha
        by_cases q : o.md % 2 = 1
        · have HQ : Hid (l7 ++ [120] = l7 ++ if o.md % 2 = 1 then [120] else []) := Lib.hid (by rw [if_pos q])
          have t : (((o.md).tmod 2) == 1) = true := by rw [beq_iff_eq, Int.tmod_eq_emod_of_nonneg (by omega)]; exact q
          go_wp2
          go_meet
          case rel => exact ⟨_, rfl, HQ, by rw [List.length_append]; simp only [List.length_cons, List.length_nil]; omega, rfl⟩
        · have HQ : Hid (l7 = l7 ++ if o.md % 2 = 1 then [120] else []) := Lib.hid (by rw [if_neg q, List.append_nil])
          have t : (((o.md).tmod 2) == 1) = false := by rw [beq_eq_false_iff_ne, Int.tmod_eq_emod_of_nonneg (by omega)]; exact q
          go_wp2
          go_meet
          case rel => exact ⟨_, rfl, HQ, by omega, rfl⟩
      case rest =>
      obtain ⟨l8, rfl, HL8, hl8, rfl⟩ := hcut
      go_step
      go_step
      go_cut [6] (fun sv wx => ∃ l : List UInt8, sv = strV l ∧ Hid (l = l8 ++ if 2 ≤ o.md then [119] else []) ∧ l.length ≤ 9 ∧ w2 = wx)
      case first =>
        have ha := add_lit l8 [119] (by first | omega | simp) (by simp)
        simp only [List.toArray] at ha
        by_cases q : 2 ≤ o.md
        · have HQ : Hid (l8 ++ [119] = l8 ++ if 2 ≤ o.md then [119] else []) := Lib.hid (by rw [if_pos q])
          go_wp2
          go_meet
          case rel => exact ⟨_, rfl, HQ, by rw [List.length_append]; simp only [List.length_cons, List.length_nil]; omega, rfl⟩
        · have HQ : Hid (l8 = l8 ++ if 2 ≤ o.md then [119] else []) := Lib.hid (by rw [if_neg q, List.append_nil])
          go_wp2
          go_meet
          case rel => exact ⟨_, rfl, HQ, by omega, rfl⟩
      case rest =>
      obtain ⟨l9, rfl, HL9, hl9, rfl⟩ := hcut
      have HLT : Hid (l9 = letP o) := Lib.hid (by rw [HL9.out, HL8.out, HL7.out, HL6.out, HL5.out, HL4.out, HL3.out, HL2.out, HL1.out, HL0.out, List.nil_append]; rfl)
      clear HL0 HL1 HL2 HL3 HL4 HL5 HL6 HL7 HL8 HL9 hl0 hl1 hl2 hl3 hl4 hl5 hl6 hl7 hl8 r01 r02 c0 c1 c2 c3 c4 c5 c6 c7 c8
      go_upto_region 28 with fail
      go_cut [7] (fun lv wx => ∃ ls : List ByteArray, Own1 wx w1.heap.size 9 lv (ls.map Value.string) ∧ Hid (ls = []) ∧ ls.length ≤ 0 ∧ w2 = wx)
      case first =>
        go_wp2
        go_meet
        case rel => exact ⟨[], Own1.nil _ _ _, Lib.hid rfl, Nat.le_refl _, rfl⟩
      obtain ⟨ls0, HO0, HS0, hs0, rfl⟩ := hcut
      have HOW0 := Lib.hid HO0
      have hsz2 := HX12.out.size
      have hne : strV l9 = .string ⟨l9.toArray⟩ := rfl
      obtain ⟨sb, hsb⟩ : ∃ sb : ByteArray, sb = ⟨l9.toArray⟩ := ⟨_, rfl⟩
      rw [hne, ← hsb]
      have hsl : sb.toList = l9 := by rw [hsb, ByteArray.toList_eq]
      have ha : ∀ W, (Op.stringOp .add ⟨#[45]⟩ sb).run Tryd.prog W = .ok (.string ⟨(45 :: l9).toArray⟩) W := fun W => by rw [hsb]; exact run_string_add_lists (P := Tryd.prog) W [45] l9 (by simp) (by omega)
      have HSL := Lib.hid hsl
      clear HO0 hne hsb hsl
      generalize hsc : (⟨(45 :: l9).toArray⟩ : ByteArray) = sc at *
      have HSC : Hid (byB sc = 45 :: l9) := Lib.hid (by rw [← hsc]; rfl)
      clear hsc
      go_step
      go_step
      go_cut [7] (fun lv wx => ∃ ls : List ByteArray, Hid (Own1 wx w1.heap.size 9 lv (ls.map Value.string)) ∧ Hid (ls.map byB = if letP o = [] then [] else [45 :: letP o]) ∧ ls.length ≤ 1 ∧ Ext w1 wx)
      case first =>
        by_cases q : l9 = []
        · have HQ : Hid (([] : List ByteArray).map byB = if letP o = [] then [] else [45 :: letP o]) := Lib.hid (by rw [if_pos (by rw [← HLT.out]; exact q)]; rfl)
          have t : sb.toList.isEmpty = true := by rw [HSL.out, List.isEmpty_iff]; exact q
          clear q
          go_wp2
          go_meet
          case rel => exact ⟨ls0, HOW0, Lib.hid (by rw [HS0.out]; exact HQ.out), by omega, HX12.out⟩
        · have HQ : Hid ((ls0 ++ [sc]).map byB = if letP o = [] then [] else [45 :: letP o]) := Lib.hid (by rw [if_neg (by rw [← HLT.out]; exact q), HS0.out, ← HLT.out, ← HSC.out]; rfl)
          have t : sb.toList.isEmpty = false := by rw [HSL.out, List.isEmpty_eq_false_iff]; exact q
          clear q
          go_wp2_with (at_builtin; refine wpList_appT rfl (.tmp 103) (.tmp 106) rfl w1.heap.size u7 ls0 rfl (HOW0.out.ext ((Ext.refl w2).alloc _)) w2.heap.size 1 sc rfl (by rw [(Blk.new w2 _ _).cell]; rfl) (by omega) (by simp; omega) ?_; intro v5 w5 hO5 hb5)
          go_meet
          case rel => exact ⟨_, Lib.hid hO5, HQ, by rw [List.length_append]; simp only [List.length_cons, List.length_nil]; omega, (HX12.out.alloc _).of_below hb5 (Nat.le_refl _)⟩
      case rest =>
      obtain ⟨ls1, HO1, HS1, hs1, hx3⟩ := hcut
      obtain ⟨w3, hw3⟩ : ∃ w, w = wc := ⟨_, rfl⟩
      subst hw3
      have HX3 := Lib.hid hx3
      have c7 := hx3.cell HC7.out
      have hsz3 := HX3.out.size
      clear hx3 HOW0 HS0 hs0 ha HSL HSC HLT
      go_step
      go_step
      go_cut [7] (fun lv wx => ∃ ls : List ByteArray, Hid (Own1 wx w1.heap.size 9 lv (ls.map Value.string)) ∧ Hid (ls.map byB = (if letP o = [] then [] else [45 :: letP o]) ++ (if 0 ≤ o.most then [[45, 109], Lib.itoa o.most] else [])) ∧ ls.length ≤ 3 ∧ Ext w1 wx)
      case first =>
        by_cases q : 0 ≤ o.most
        · have HQ : Hid (((ls1 ++ [(⟨#[45, 109]⟩ : ByteArray)]) ++ [(⟨(Lib.itoa o.most).toArray⟩ : ByteArray)]).map byB = (if letP o = [] then [] else [45 :: letP o]) ++ (if 0 ≤ o.most then [[45, 109], Lib.itoa o.most] else [])) := Lib.hid (by rw [if_pos q, List.map_append, List.map_append, HS1.out, List.append_assoc]; rfl)
          have HDE := Lib.hid (fun W => dec_any o.most W HM.out)
          clear HS1
          go_upto_region 33 with (at_builtin; refine wpList_appT rfl (.tmp 111) (.tmp 112) rfl w1.heap.size u7 ls1 rfl (HO1.out.ext ((Ext.refl w3).alloc _)) w3.heap.size 1 ⟨#[45, 109]⟩ rfl (by rw [(Blk.new w3 _ _).cell]; rfl) (by omega) (by simp; omega) ?_; intro v5 w5 hO5 hb5)
          have hx5 : Ext w1 w5 := (HX3.out.alloc _).of_below hb5 (Nat.le_refl _)
          have c7' := hx5.cell HC7.out
          have HO5 := Lib.hid hO5
          have hsz5 := hx5.size
          clear hb5 hO5
          go_wp2_with (first
            | (go_at_call 76; refine (HDE.out _).mono ?_; rintro e w6 ⟨he, hx6⟩; obtain rfl : e = .returned (.string ⟨(Lib.itoa o.most).toArray⟩) := he)
            | (at_builtin; refine wpList_appT rfl (.tmp 114) (.tmp 118) rfl w1.heap.size v5 (ls1 ++ [(⟨#[45, 109]⟩ : ByteArray)]) rfl ((HO5.out.ext hx6).ext ((Ext.refl w6).alloc _)) w6.heap.size 1 ⟨(Lib.itoa o.most).toArray⟩ rfl (by rw [(Blk.new w6 _ _).cell]; rfl) (by rw [List.length_append]; simp only [List.length_cons, List.length_nil]; omega) (by have := hx6.size; simp; omega) ?_; intro v7 w7 hO7 hb7))
          go_meet
          case rel => exact ⟨_, Lib.hid hO7, HQ, by rw [List.length_append, List.length_append]; simp only [List.length_cons, List.length_nil]; omega, ((hx5.trans hx6).alloc _).of_below hb7 (Nat.le_refl _)⟩
        · have HQ : Hid (ls1.map byB = (if letP o = [] then [] else [45 :: letP o]) ++ (if 0 ≤ o.most then [[45, 109], Lib.itoa o.most] else [])) := Lib.hid (by rw [if_neg q, List.append_nil]; exact HS1.out)
          go_wp2
          go_meet
          case rel => exact ⟨ls1, HO1, HQ, by omega, HX3.out⟩
      case rest =>
      obtain ⟨ls2, HO2, HS2, hs2, hx4⟩ := hcut
      obtain ⟨w4, hw4⟩ : ∃ w, w = wc := ⟨_, rfl⟩
      subst hw4
      have HX4 := Lib.hid hx4
      clear hx4 HO1 HS1 hs1 HX3 hsz3 c7
      go_wp2
      go_loopw [7, 8] (fun lv iv wr => ∃ (k : Nat) (ls : List ByteArray), k ≤ ws.length ∧ iv = .int .i64 k ∧ Hid (Own1 wr w1.heap.size 9 lv (ls.map Value.string)) ∧ Hid (ls.map byB = ((if letP o = [] then [] else [45 :: letP o]) ++ (if 0 ≤ o.most then [[45, 109], Lib.itoa o.most] else [])) ++ patW (o.pats.take k)) ∧ ls.length ≤ 3 + 2 * k ∧ Ext w1 wr) (fun _ iv _ => ws.length - (intOf iv).toNat)
      case atStart => exact ⟨0, ls2, Nat.zero_le _, rfl, HO2, Lib.hid (by rw [HS2.out, List.take_zero]; exact (List.append_nil _).symm), by omega, HX4.out⟩
      case round =>
        obtain ⟨k, ls, hk, rfl, HOL, HSL, hls, hx5⟩ := hrel
        obtain ⟨w5, hw5⟩ : ∃ w, w = wr := ⟨_, rfl⟩
        subst hw5
        have HX5 := Lib.hid hx5
        have c8 := hx5.cell HC8.out
        have hsz5 := hx5.size
        clear hx5 HO2 HS2 HX4
        by_cases hlt : k < ws.length
        · obtain ⟨gw, off, rfl, hcell⟩ := HCS.out k hlt
          have hgx : ws.getD k ⟨#[]⟩ = ws[k] := by rw [List.getD_eq_getElem?_getD, List.getElem?_eq_getElem hlt]; rfl
          rw [hgx] at hcell
          have HCX := Lib.hid (fun W (hW : Ext w1 W) => (HX.out.trans hW).cell hcell)
          replace hcell := (HX.out.trans HX5.out).cell hcell
          have q9 : (k : Int) < (ws.length : Int) := by omega
          have HQ : Hid (((ls ++ [(⟨#[45, 101]⟩ : ByteArray)]) ++ [ws[k]]).map byB = ((if letP o = [] then [] else [45 :: letP o]) ++ (if 0 ≤ o.most then [[45, 109], Lib.itoa o.most] else [])) ++ patW (o.pats.take (k + 1))) := Lib.hid (by
            have hkp : k < o.pats.length := by rw [← HP.out, List.length_map]; exact hlt
            have e : o.pats[k] = byB ws[k] := by simp only [← HP.out, List.getElem_map]
            rw [List.take_succ_eq_append_getElem hkp, patW_snoc, e, List.map_append, List.map_append, HSL.out, List.append_assoc, List.append_assoc, ← List.append_assoc (patW _)]
            simp only [List.append_assoc]
            rfl)
          clear hgx HSL
          generalize ws[k] = x at *
          go_upto_region 38 with (at_builtin; refine wpList_appT rfl (.tmp 127) (.tmp 128) rfl w1.heap.size u7 ls rfl (HOL.out.ext ((Ext.refl w5).alloc _)) w5.heap.size 1 ⟨#[45, 101]⟩ rfl (by rw [(Blk.new w5 _ _).cell]; rfl) (by omega) (by simp; omega) ?_; intro v6 w6 hO6 hb6)
          have hx6 := (HX5.out.alloc (.cells #[Value.string ⟨#[45, 101]⟩] 9)).of_below hb6 (Nat.le_refl _)
          have HO6 := Lib.hid hO6
          have HX6 := Lib.hid hx6
          have c8' := hx6.cell HC8.out
          have hsz6 := hx6.size
          obtain ⟨_, _, _, _, hct⟩ : True ∧ True ∧ True ∧ True ∧ w6.cell? ⟨gw, off + k, none⟩ = some (.string x) := ⟨trivial, trivial, trivial, trivial, HCX.out _ hx6⟩
          clear hx6 hO6 hb6 hcell c8
          go_wp2_with (at_builtin; refine wpList_appT rfl (.tmp 130) (.tmp 136) rfl w1.heap.size v6 (ls ++ [⟨#[45, 101]⟩]) rfl (HO6.out.ext ((Ext.refl w6).alloc _)) w6.heap.size 1 x rfl (by rw [(Blk.new w6 _ _).cell]; rfl) (by rw [List.length_append]; simp only [List.length_cons, List.length_nil]; omega) (by simp; omega) ?_; intro v7 w7 hO7 hb7)
          go_roundw
          case rel => exact ⟨k + 1, _, hlt, by go_num, Lib.hid hO7, HQ, by rw [List.length_append, List.length_append]; simp only [List.length_cons, List.length_nil]; omega, (HX6.out.alloc _).of_below hb7 (Nat.le_refl _)⟩
          case measure => simp [intOf]; omega
        · have q9 : ¬ (k : Int) < (ws.length : Int) := by omega
          have HQ : Hid (ls.map byB = wordsP o) := Lib.hid (by rw [HSL.out, List.take_of_length_le (by rw [← HP.out, List.length_map]; omega)]; rfl)
          clear HSL
          go_upto_region 39 with fail
          repeat (first | go_skip | go_guarded | go_step | go_upon)
          go_ret2
          exact ⟨_, ls, by rw [if_pos HOK.out]; rfl, HOL.out.mono hsz1, by rw [if_pos HOK.out]; exact HQ.out, HX.out.trans HX5.out⟩

end Go.Proofs.YtkcgbdoplhgbmaaDoor
