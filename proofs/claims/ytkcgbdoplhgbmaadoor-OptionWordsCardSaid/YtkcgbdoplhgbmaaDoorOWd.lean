/- option.reader's word as a contract. Conditions: the lengths; the cell of the library's own number. -/
import Derived.Test.YtkcgbdoplhgbmaaDoorORd
import Derived.Test.YtkcgbdoplhgbmaaDoorOptB
namespace Go.Proofs.YtkcgbdoplhgbmaaDoor
open Go Go.RowKit

theorem RdSt.setO {W : World} {B b : Nat} {wv : Value} {i : Nat} {o : Ops} {t : Nat} (h : RdSt W B b wv i o t) (j : Nat) (u : Value) (o' : Ops) (hp : o'.pats = o.pats) (he : ∀ pv, (rdC wv i o pv t).setIfInBounds j u = rdC wv i o' pv t) :
    RdSt (W.setCell ⟨b, j, none⟩ u) B b wv i o' t ∧ Keeps (B ≤ ·) W (W.setCell ⟨b, j, none⟩ u) := by
  obtain ⟨pv, ps, h1, h2, h3, h4⟩ := h
  exact ⟨⟨pv, ps, h1, by have := h2.set j u; rwa [he] at this, h3.keeps ((Keeps.refl (· = b) W).setCell (p := ⟨b, j, none⟩) (.inr rfl) _) (fun k hk e => h3.apartB h2 (by decide) (by subst e; exact hk)), by rw [hp]; exact h4⟩, (Keeps.refl (B ≤ ·) W).setCell (p := ⟨b, j, none⟩) (.inr h1) _⟩
theorem RdSt.cellO {W : World} {B b : Nat} {wv : Value} {i : Nat} {o : Ops} {t : Nat} (h : RdSt W B b wv i o t) :
    W.cell? ⟨b, 2, none⟩ = some (.int .i64 o.fl) ∧ W.cell? ⟨b, 3, none⟩ = some (.int .i64 o.md) ∧ W.cell? ⟨b, 4, none⟩ = some (.bool o.inv) ∧ W.cell? ⟨b, 5, none⟩ = some (.bool o.cnt) ∧ W.cell? ⟨b, 6, none⟩ = some (.bool o.num) ∧ W.cell? ⟨b, 7, none⟩ = some (.bool o.onl) ∧ W.cell? ⟨b, 8, none⟩ = some (.bool o.qui) ∧ W.cell? ⟨b, 9, none⟩ = some (.int .i64 o.most) ∧ ∀ j, W.frozen? ⟨b, j, none⟩ = false := by
  obtain ⟨pv, ps, h1, h2, h3, h4⟩ := h
  exact ⟨h2.cell 2, h2.cell 3, h2.cell 4, h2.cell 5, h2.cell 6, h2.cell 7, h2.cell 8, h2.cell 9, fun j => h2.frozen j⟩
theorem word_step {b : UInt8} {r : List UInt8} {nx : Option (List UInt8)} {o o' : Ops} (h : ¬ (b = 101 ∨ b = 109)) (hs : simpP b o = some o') : wordP (b :: r) nx o = wordP r nx o' := by
  rw [wordP, if_neg h, hs]
theorem four {x : Int} (h : 0 ≤ x ∧ x ≤ 3) : x = 0 ∨ x = 1 ∨ x = 2 ∨ x = 3 := by omega
theorem or_one {x : Int} (h : 0 ≤ x ∧ x ≤ 3) : bits .or .i64 x 1 = x / 2 * 2 + 1 := by rcases four h with rfl | rfl | rfl | rfl <;> rfl
theorem or_two {x : Int} (h : 0 ≤ x ∧ x ≤ 3) : bits .or .i64 x 2 = x % 2 + 2 := by rcases four h with rfl | rfl | rfl | rfl <;> rfl
theorem andNot_one {x : Int} (h : 0 ≤ x ∧ x ≤ 3) : bits .andNot .i64 x 1 = x / 2 * 2 := by rcases four h with rfl | rfl | rfl | rfl <;> rfl

theorem word_no {b : UInt8} {r : List UInt8} {nx : Option (List UInt8)} {o : Ops} (h : b = 101 ∨ b = 109) (ha : argP r nx = none) : wordP (b :: r) nx o = none := by
  unfold argP at ha
  rw [wordP, if_pos h, ha]
theorem word_e {r : List UInt8} {nx : Option (List UInt8)} {o : Ops} {x : List UInt8} {took : Bool} (ha : argP r nx = some (x, took)) : wordP (101 :: r) nx o = some ({ o with pats := o.pats ++ partsP x }, 1, took) := by
  unfold argP at ha
  rw [wordP, if_pos (.inl rfl), ha]
  rfl
theorem word_m {r : List UInt8} {nx : Option (List UInt8)} {o : Ops} {x : List UInt8} {took : Bool} (ha : argP r nx = some (x, took)) : wordP (109 :: r) nx o = (numbP x).map fun (m : Nat) => ({ o with most := (m : Int) }, 0, took) := by
  unfold argP at ha
  rw [wordP, if_pos (.inr rfl), ha]
  rfl
theorem meas_lt {n k : Nat} (h : k < n) : n - ((k : Int) + 1).toNat < n - (k : Int).toNat := by omega
theorem word_none {b : UInt8} {r : List UInt8} {nx : Option (List UInt8)} {o : Ops} (h : ¬ (b = 101 ∨ b = 109)) (hs : simpP b o = none) : wordP (b :: r) nx o = none := by
  rw [wordP, if_neg h, hs]
theorem simp_bad {b : UInt8} {o : Ops} (h : b.toNat ≠ 69 ∧ b.toNat ≠ 71 ∧ b.toNat ≠ 105 ∧ b.toNat ≠ 120 ∧ b.toNat ≠ 119 ∧ b.toNat ≠ 118 ∧ b.toNat ≠ 99 ∧ b.toNat ≠ 110 ∧ b.toNat ≠ 111 ∧ b.toNat ≠ 113) : simpP b o = none := by
  obtain ⟨h1, h2, h3, h4, h5, h6, h7, h8, h9, h10⟩ := h
  unfold simpP
  rw [if_neg (fun e => h1 (by rw [e]; rfl)), if_neg (fun e => h2 (by rw [e]; rfl)), if_neg (fun e => h3 (by rw [e]; rfl)), if_neg (fun e => h4 (by rw [e]; rfl)), if_neg (fun e => h5 (by rw [e]; rfl)), if_neg (fun e => h6 (by rw [e]; rfl)), if_neg (fun e => h7 (by rw [e]; rfl)), if_neg (fun e => h8 (by rw [e]; rfl)), if_neg (fun e => h9 (by rw [e]; rfl)), if_neg (fun e => h10 (by rw [e]; rfl))]
theorem arg_or {r : List UInt8} {nx : Option (List UInt8)} {x : List UInt8} {took : Bool} (ha : argP r nx = some (x, took)) : x = r ∨ nx = some x := by
  unfold argP at ha
  split at ha
  · cases ha; exact .inl rfl
  · cases nx with
    | none => cases ha
    | some y => cases ha; exact .inr rfl

/-- What word leaves. -/
def WordR (W : World) (B b : Nat) (wv : Value) (i t : Nat) (R : Option (Ops × Nat × Bool)) (e : Ending) (w' : World) : Prop :=
  e = .returned (.bool R.isSome) ∧ Keeps (B ≤ ·) W w' ∧ ∀ x, R = some x → RdSt w' B b wv (if x.2.2 then i + 1 else i) x.1 (t + x.2.1)

set_option maxRecDepth 100000 in
set_option maxHeartbeats 8000000 in
theorem oword_any (w0 W : World) (b : Nat) (wv : Value) (ws : List ByteArray) (i : Nat) (o : Ops) (t : Nat) (m : Int) (h : RdSt W w0.heap.size b wv i o t) (hW : RdT w0 wv ws) (hx0 : Ext w0 W) (hl : ws.length ≤ 1000000000) (hi : i < ws.length) (s : ByteArray)
    (hv : invO o) (ht : t < 1000000000) (hn : ∀ z, ws[i + 1]? = some z → o.pats.length + z.size ≤ 1000000000) (hs : o.pats.length + s.size ≤ 1000000000) (hs1 : 1 ≤ s.size)
    (hm : w0.cell? ⟨22, 0, none⟩ = some (.int .i64 m)) :
    Calls Tryd.prog 66 #[.pointer (some ⟨b, 0, none⟩), .string s] W (WordR W w0.heap.size b wv i t (wordP ((byB s).drop 1) (ws[i + 1]?.map byB) o)) := by
  generalize hR : wordP ((byB s).drop 1) (ws[i + 1]?.map byB) o = R
  have HR := Lib.hid hR
  have HS := Lib.hid hs
  have HSL := Lib.hid (byB_len s)
  have HWW := Lib.hid hW
  have HX0 := Lib.hid hx0
  have HM := Lib.hid hm
  have HN := Lib.hid hn
  clear hR hs hW hx0 hm hn
  go_enter Tryd.func66, Tryd.ntmps66
  go_wp2
  go_loopw [5, 6, 7] (fun kv _ _ wr => ∃ (k : Nat) (ok : Ops), 1 ≤ k ∧ k ≤ s.size ∧ kv = .int .i64 k ∧ RdSt wr w0.heap.size b wv i ok t ∧ Keeps (w0.heap.size ≤ ·) W wr ∧ invO ok ∧ ok.pats = o.pats ∧ Hid (wordP ((byB s).drop k) (ws[i + 1]?.map byB) ok = R)) (fun kv _ _ _ => s.size - (intOf kv).toNat)
  case atStart => exact ⟨1, o, Nat.le_refl _, hs1, rfl, h, Keeps.refl _ _, hv, rfl, HR⟩
  case round =>
    obtain ⟨k, ok, hk1, hk, rfl, hSt, hK, hvk, hpk, HRK⟩ := hrel
    by_cases hlt : k < s.size
    · have hd : (byB s).drop k = s[k] :: (byB s).drop (k + 1) := drop_get s k hlt
      obtain ⟨c2, c3, c4, c5, c6, c7, c8, c9, hfr⟩ := hSt.cellO
      have HST := Lib.hid hSt
      have HK := Lib.hid hK
      clear hSt hK h hv
      have hw1 : wrap64 ((k : Int) + 1) = (k : Int) + 1 := by have := HS.out; unfold wrap64; omega
      by_cases a69 : s[k].toNat = 69
      · have eb : s[k] = 69 := UInt8.toNat_inj.1 a69
        have HQ : Hid (wordP ((byB s).drop (k + 1)) (ws[i + 1]?.map byB) { ok with fl := ok.fl / 2 * 2 + 1 } = R) := Lib.hid (by rw [← HRK.out, hd, eb]; exact (word_step (by decide) rfl).symm)
        have hval := or_one hvk.1
        have hset := HST.out.setO 2 (.int .i64 (ok.fl / 2 * 2 + 1)) { ok with fl := ok.fl / 2 * 2 + 1 } rfl (fun _ => rfl)
        have HSE := Lib.hid hset
        have f2 := hfr 2
        have HV : Hid (invO { ok with fl := ok.fl / 2 * 2 + 1 }) := Lib.hid ⟨by have := hvk.1; dsimp only; omega, hvk.2⟩
        clear hd eb HRK hset hfr hvk c3 c4 c5 c6 c7 c8 c9
        go_wp2
        go_roundw
        case rel => exact ⟨k + 1, _, by omega, hlt, by go_num, HSE.out.1, HK.out.trans HSE.out.2 (fun _ _ h => h), HV.out, hpk, HQ⟩
        case measure => rw [intOf, intOf, hw1]; exact meas_lt hlt
      have n69 : ((s[k].toNat : Int) == 69) = false := by rw [beq_eq_false_iff_ne]; omega
      by_cases a71 : s[k].toNat = 71
      · have eb : s[k] = 71 := UInt8.toNat_inj.1 a71
        have HQ : Hid (wordP ((byB s).drop (k + 1)) (ws[i + 1]?.map byB) { ok with fl := ok.fl / 2 * 2 } = R) := Lib.hid (by rw [← HRK.out, hd, eb]; exact (word_step (by decide) rfl).symm)
        have hval := andNot_one hvk.1
        have hset := HST.out.setO 2 (.int .i64 (ok.fl / 2 * 2)) { ok with fl := ok.fl / 2 * 2 } rfl (fun _ => rfl)
        have HSE := Lib.hid hset
        have f2 := hfr 2
        have HV : Hid (invO { ok with fl := ok.fl / 2 * 2 }) := Lib.hid ⟨by have := hvk.1; dsimp only; omega, hvk.2⟩
        clear hd eb HRK hset hfr hvk c3 c4 c5 c6 c7 c8 c9
        go_wp2
        go_roundw
        case rel => exact ⟨k + 1, _, by omega, hlt, by go_num, HSE.out.1, HK.out.trans HSE.out.2 (fun _ _ h => h), HV.out, hpk, HQ⟩
        case measure => rw [intOf, intOf, hw1]; exact meas_lt hlt
      have n71 : ((s[k].toNat : Int) == 71) = false := by rw [beq_eq_false_iff_ne]; omega
      by_cases a105 : s[k].toNat = 105
      · have eb : s[k] = 105 := UInt8.toNat_inj.1 a105
        have HQ : Hid (wordP ((byB s).drop (k + 1)) (ws[i + 1]?.map byB) { ok with fl := ok.fl % 2 + 2 } = R) := Lib.hid (by rw [← HRK.out, hd, eb]; exact (word_step (by decide) rfl).symm)
        have hval := or_two hvk.1
        have hset := HST.out.setO 2 (.int .i64 (ok.fl % 2 + 2)) { ok with fl := ok.fl % 2 + 2 } rfl (fun _ => rfl)
        have HSE := Lib.hid hset
        have f2 := hfr 2
        have HV : Hid (invO { ok with fl := ok.fl % 2 + 2 }) := Lib.hid ⟨by have := hvk.1; dsimp only; omega, hvk.2⟩
        clear hd eb HRK hset hfr hvk c3 c4 c5 c6 c7 c8 c9
        go_wp2
        go_roundw
        case rel => exact ⟨k + 1, _, by omega, hlt, by go_num, HSE.out.1, HK.out.trans HSE.out.2 (fun _ _ h => h), HV.out, hpk, HQ⟩
        case measure => rw [intOf, intOf, hw1]; exact meas_lt hlt
      have n105 : ((s[k].toNat : Int) == 105) = false := by rw [beq_eq_false_iff_ne]; omega
      by_cases a120 : s[k].toNat = 120
      · have eb : s[k] = 120 := UInt8.toNat_inj.1 a120
        have HQ : Hid (wordP ((byB s).drop (k + 1)) (ws[i + 1]?.map byB) { ok with md := ok.md / 2 * 2 + 1 } = R) := Lib.hid (by rw [← HRK.out, hd, eb]; exact (word_step (by decide) rfl).symm)
        have hval := or_one hvk.2.1
        have hset := HST.out.setO 3 (.int .i64 (ok.md / 2 * 2 + 1)) { ok with md := ok.md / 2 * 2 + 1 } rfl (fun _ => rfl)
        have HSE := Lib.hid hset
        have f2 := hfr 3
        have HV : Hid (invO { ok with md := ok.md / 2 * 2 + 1 }) := Lib.hid ⟨hvk.1, by have := hvk.2.1; dsimp only; omega, hvk.2.2⟩
        clear hd eb HRK hset hfr hvk c2 c4 c5 c6 c7 c8 c9
        go_wp2
        go_roundw
        case rel => exact ⟨k + 1, _, by omega, hlt, by go_num, HSE.out.1, HK.out.trans HSE.out.2 (fun _ _ h => h), HV.out, hpk, HQ⟩
        case measure => rw [intOf, intOf, hw1]; exact meas_lt hlt
      have n120 : ((s[k].toNat : Int) == 120) = false := by rw [beq_eq_false_iff_ne]; omega
      by_cases a119 : s[k].toNat = 119
      · have eb : s[k] = 119 := UInt8.toNat_inj.1 a119
        have HQ : Hid (wordP ((byB s).drop (k + 1)) (ws[i + 1]?.map byB) { ok with md := ok.md % 2 + 2 } = R) := Lib.hid (by rw [← HRK.out, hd, eb]; exact (word_step (by decide) rfl).symm)
        have hval := or_two hvk.2.1
        have hset := HST.out.setO 3 (.int .i64 (ok.md % 2 + 2)) { ok with md := ok.md % 2 + 2 } rfl (fun _ => rfl)
        have HSE := Lib.hid hset
        have f2 := hfr 3
        have HV : Hid (invO { ok with md := ok.md % 2 + 2 }) := Lib.hid ⟨hvk.1, by have := hvk.2.1; dsimp only; omega, hvk.2.2⟩
        clear hd eb HRK hset hfr hvk c2 c4 c5 c6 c7 c8 c9
        go_wp2
        go_roundw
        case rel => exact ⟨k + 1, _, by omega, hlt, by go_num, HSE.out.1, HK.out.trans HSE.out.2 (fun _ _ h => h), HV.out, hpk, HQ⟩
        case measure => rw [intOf, intOf, hw1]; exact meas_lt hlt
      have n119 : ((s[k].toNat : Int) == 119) = false := by rw [beq_eq_false_iff_ne]; omega
      by_cases a118 : s[k].toNat = 118
      · have eb : s[k] = 118 := UInt8.toNat_inj.1 a118
        have HQ : Hid (wordP ((byB s).drop (k + 1)) (ws[i + 1]?.map byB) { ok with inv := true } = R) := Lib.hid (by rw [← HRK.out, hd, eb]; exact (word_step (by decide) rfl).symm)
        have hset := HST.out.setO 4 (.bool true) { ok with inv := true } rfl (fun _ => rfl)
        have HSE := Lib.hid hset
        have f2 := hfr 4
        have HV : Hid (invO { ok with inv := true }) := Lib.hid hvk
        clear hd eb HRK hset hfr hvk c2 c3 c5 c6 c7 c8 c9
        go_wp2
        go_roundw
        case rel => exact ⟨k + 1, _, by omega, hlt, by go_num, HSE.out.1, HK.out.trans HSE.out.2 (fun _ _ h => h), HV.out, hpk, HQ⟩
        case measure => rw [intOf, intOf, hw1]; exact meas_lt hlt
      have n118 : ((s[k].toNat : Int) == 118) = false := by rw [beq_eq_false_iff_ne]; omega
      by_cases a99 : s[k].toNat = 99
      · have eb : s[k] = 99 := UInt8.toNat_inj.1 a99
        have HQ : Hid (wordP ((byB s).drop (k + 1)) (ws[i + 1]?.map byB) { ok with cnt := true } = R) := Lib.hid (by rw [← HRK.out, hd, eb]; exact (word_step (by decide) rfl).symm)
        have hset := HST.out.setO 5 (.bool true) { ok with cnt := true } rfl (fun _ => rfl)
        have HSE := Lib.hid hset
        have f2 := hfr 5
        have HV : Hid (invO { ok with cnt := true }) := Lib.hid hvk
        clear hd eb HRK hset hfr hvk c2 c3 c4 c6 c7 c8 c9
        go_wp2
        go_roundw
        case rel => exact ⟨k + 1, _, by omega, hlt, by go_num, HSE.out.1, HK.out.trans HSE.out.2 (fun _ _ h => h), HV.out, hpk, HQ⟩
        case measure => rw [intOf, intOf, hw1]; exact meas_lt hlt
      have n99 : ((s[k].toNat : Int) == 99) = false := by rw [beq_eq_false_iff_ne]; omega
      by_cases a110 : s[k].toNat = 110
      · have eb : s[k] = 110 := UInt8.toNat_inj.1 a110
        have HQ : Hid (wordP ((byB s).drop (k + 1)) (ws[i + 1]?.map byB) { ok with num := true } = R) := Lib.hid (by rw [← HRK.out, hd, eb]; exact (word_step (by decide) rfl).symm)
        have hset := HST.out.setO 6 (.bool true) { ok with num := true } rfl (fun _ => rfl)
        have HSE := Lib.hid hset
        have f2 := hfr 6
        have HV : Hid (invO { ok with num := true }) := Lib.hid hvk
        clear hd eb HRK hset hfr hvk c2 c3 c4 c5 c7 c8 c9
        go_wp2
        go_roundw
        case rel => exact ⟨k + 1, _, by omega, hlt, by go_num, HSE.out.1, HK.out.trans HSE.out.2 (fun _ _ h => h), HV.out, hpk, HQ⟩
        case measure => rw [intOf, intOf, hw1]; exact meas_lt hlt
      have n110 : ((s[k].toNat : Int) == 110) = false := by rw [beq_eq_false_iff_ne]; omega
      by_cases a111 : s[k].toNat = 111
      · have eb : s[k] = 111 := UInt8.toNat_inj.1 a111
        have HQ : Hid (wordP ((byB s).drop (k + 1)) (ws[i + 1]?.map byB) { ok with onl := true } = R) := Lib.hid (by rw [← HRK.out, hd, eb]; exact (word_step (by decide) rfl).symm)
        have hset := HST.out.setO 7 (.bool true) { ok with onl := true } rfl (fun _ => rfl)
        have HSE := Lib.hid hset
        have f2 := hfr 7
        have HV : Hid (invO { ok with onl := true }) := Lib.hid hvk
        clear hd eb HRK hset hfr hvk c2 c3 c4 c5 c6 c8 c9
        go_wp2
        go_roundw
        case rel => exact ⟨k + 1, _, by omega, hlt, by go_num, HSE.out.1, HK.out.trans HSE.out.2 (fun _ _ h => h), HV.out, hpk, HQ⟩
        case measure => rw [intOf, intOf, hw1]; exact meas_lt hlt
      have n111 : ((s[k].toNat : Int) == 111) = false := by rw [beq_eq_false_iff_ne]; omega
      by_cases a113 : s[k].toNat = 113
      · have eb : s[k] = 113 := UInt8.toNat_inj.1 a113
        have HQ : Hid (wordP ((byB s).drop (k + 1)) (ws[i + 1]?.map byB) { ok with qui := true } = R) := Lib.hid (by rw [← HRK.out, hd, eb]; exact (word_step (by decide) rfl).symm)
        have hset := HST.out.setO 8 (.bool true) { ok with qui := true } rfl (fun _ => rfl)
        have HSE := Lib.hid hset
        have f2 := hfr 8
        have HV : Hid (invO { ok with qui := true }) := Lib.hid hvk
        clear hd eb HRK hset hfr hvk c2 c3 c4 c5 c6 c7 c9
        go_wp2
        go_roundw
        case rel => exact ⟨k + 1, _, by omega, hlt, by go_num, HSE.out.1, HK.out.trans HSE.out.2 (fun _ _ h => h), HV.out, hpk, HQ⟩
        case measure => rw [intOf, intOf, hw1]; exact meas_lt hlt
      have n113 : ((s[k].toNat : Int) == 113) = false := by rw [beq_eq_false_iff_ne]; omega
      by_cases a101 : s[k].toNat = 101
      · have eb : s[k] = 101 := UInt8.toNat_inj.1 a101
        have hro : (byB s).drop (k + 1) = byB (s.extract (k + 1) s.size) := by rw [byB_extract, List.take_of_length_le (by rw [List.length_drop, byB_len]; omega)]
        have HXW := Lib.hid (HX0.out.keeps HK.out (fun _ h1 h2 => by omega))
        have HARG := Lib.hid (argument_any w0 wr b wv ws i ok t HST.out HWW.out HXW.out hl hi (s.extract (k + 1) s.size))
        rw [← hro] at HARG
        have hrl : ((byB s).drop (k + 1)).length ≤ s.size := by rw [List.length_drop, byB_len]; omega
        rcases hra : argP ((byB s).drop (k + 1)) (ws[i + 1]?.map byB) with _ | ⟨x, took⟩
        · have HQ : Hid (R = none) := Lib.hid (by rw [← HRK.out, hd, eb]; exact word_no (by decide) hra)
          rw [hra] at HARG
          clear hd eb HRK hfr hvk c2 c3 c4 c5 c6 c7 c8 c9 hro hra hrl
          rw [HQ.out]
          go_wp2_with (go_at_call 92; refine HARG.out.mono ?_; rintro e w6 ⟨a6, rfl, hk6, _⟩)
          go_ret
          exact ⟨rfl, HK.out.trans hk6 (fun _ _ h => h), fun x hx => by cases hx⟩
        · have HQ : Hid (R = some ({ ok with pats := ok.pats ++ partsP x }, 1, took)) := Lib.hid (by rw [← HRK.out, hd, eb]; exact word_e hra)
          have hxl : ok.pats.length + x.length ≤ 1000000000 := by
            rw [hpk]
            rcases arg_or hra with rfl | hx
            · have := HS.out; omega
            · rw [Option.map_eq_some_iff] at hx
              obtain ⟨z, hz, rfl⟩ := hx
              have := HN.out z hz
              rw [byB_len]; exact this
          have HXL := Lib.hid hxl
          rw [hra] at HARG
          have HADD := Lib.hid (fun w6 i6 (h6 : RdSt w6 w0.heap.size b wv i6 ok t) (hx6 : Ext w0 w6) a (ha : byB a = x) => add_any w6 w0.heap.size b wv i6 ok t h6 a m hx6.size (by rw [← byB_len, ha]; exact HXL.out) (by omega) (hx6.cell HM.out))
          clear hd eb HRK hfr hvk c2 c3 c4 c5 c6 c7 c8 c9 hro hra hrl hxl
          rw [HQ.out]
          go_wp2_with (first
            | (go_at_call 92; refine HARG.out.mono ?_; rintro e w6 ⟨a6, rfl, hk6, hx6⟩; obtain ⟨ha6, hs6⟩ := hx6 _ rfl; have hxx6 := HXW.out.keeps hk6 (fun _ h1 h2 => by omega))
            | (go_at_call 68; refine (HADD.out w6 _ hs6 hxx6 a6 ha6).mono ?_; rintro e w7 ⟨rfl, hs7, hk7⟩))
          go_ret
          exact ⟨rfl, (HK.out.trans hk6 (fun _ _ h => h)).trans hk7 (fun _ _ h => h), fun y hy => by cases hy; rw [ha6] at hs7; exact hs7⟩
      have n101 : ((s[k].toNat : Int) == 101) = false := by rw [beq_eq_false_iff_ne]; omega
      by_cases a109 : s[k].toNat = 109
      · have eb : s[k] = 109 := UInt8.toNat_inj.1 a109
        have hro : (byB s).drop (k + 1) = byB (s.extract (k + 1) s.size) := by rw [byB_extract, List.take_of_length_le (by rw [List.length_drop, byB_len]; omega)]
        have HXW := Lib.hid (HX0.out.keeps HK.out (fun _ h1 h2 => by omega))
        have HARG := Lib.hid (argument_any w0 wr b wv ws i ok t HST.out HWW.out HXW.out hl hi (s.extract (k + 1) s.size))
        rw [← hro] at HARG
        have hrl : ((byB s).drop (k + 1)).length ≤ s.size := by rw [List.length_drop, byB_len]; omega
        rcases hra : argP ((byB s).drop (k + 1)) (ws[i + 1]?.map byB) with _ | ⟨x, took⟩
        · have HQ : Hid (R = none) := Lib.hid (by rw [← HRK.out, hd, eb]; exact word_no (by decide) hra)
          rw [hra] at HARG
          clear hd eb HRK hfr hvk c2 c3 c4 c5 c6 c7 c8 c9 hro hra hrl
          rw [HQ.out]
          go_wp2_with (go_at_call 92; refine HARG.out.mono ?_; rintro e w6 ⟨a6, rfl, hk6, _⟩)
          go_ret
          exact ⟨rfl, HK.out.trans hk6 (fun _ _ h => h), fun x hx => by cases hx⟩
        · rcases hnb : numbP x with _ | nb
          · have HQ : Hid (R = none) := Lib.hid (by rw [← HRK.out, hd, eb, word_m hra, hnb]; rfl)
            rw [hra] at HARG
            have HMO := Lib.hid (fun w6 a (ha : byB a = x) => most_any a w6)
            have HNB := Lib.hid hnb
            clear hd eb HRK hfr hvk c2 c3 c4 c5 c6 c7 c8 c9 hro hra hrl hnb
            rw [HQ.out]
            go_wp2_with (first
              | (go_at_call 92; refine HARG.out.mono ?_; rintro e w6 ⟨a6, rfl, hk6, hx6⟩; obtain ⟨ha6, hs6⟩ := hx6 _ rfl; obtain ⟨_, _, _, _, _, _, _, e9, efr⟩ := hs6.cellO; have ef9 := efr 9; clear efr; have hn6 : numbP (byB a6) = none := by rw [ha6]; exact HNB.out)
              | (go_at_call 93; refine (HMO.out w6 a6 ha6).mono ?_; rintro e w7 ⟨rfl, rfl⟩; rw [hn6]))
            go_ret
            exact ⟨rfl, (HK.out.trans hk6 (fun _ _ h => h)).trans (hs6.setO 9 (.int .i64 0) { ok with most := 0 } rfl (fun _ => rfl)).2 (fun _ _ h => h), fun y hy => by cases hy⟩
          · have HQ : Hid (R = some ({ ok with most := (nb : Nat) }, 0, took)) := Lib.hid (by rw [← HRK.out, hd, eb, word_m hra, hnb]; rfl)
            rw [hra] at HARG
            have HMO := Lib.hid (fun w6 a (ha : byB a = x) => most_any a w6)
            have HNB := Lib.hid hnb
            clear hd eb HRK hfr hvk c2 c3 c4 c5 c6 c7 c8 c9 hro hra hrl hnb
            rw [HQ.out]
            go_wp2_with (first
              | (go_at_call 92; refine HARG.out.mono ?_; rintro e w6 ⟨a6, rfl, hk6, hx6⟩; obtain ⟨ha6, hs6⟩ := hx6 _ rfl; obtain ⟨_, _, _, _, _, _, _, e9, efr⟩ := hs6.cellO; have ef9 := efr 9; clear efr; have hn6 : numbP (byB a6) = some nb := by rw [ha6]; exact HNB.out)
              | (go_at_call 93; refine (HMO.out w6 a6 ha6).mono ?_; rintro e w7 ⟨rfl, rfl⟩; rw [hn6]))
            have hz := hs6.setO 9 (.int .i64 (nb : Nat)) { ok with most := (nb : Nat) } rfl (fun _ => rfl)
            go_ret
            exact ⟨rfl, (HK.out.trans hk6 (fun _ _ h => h)).trans hz.2 (fun _ _ h => h), fun y hy => by cases hy; exact hz.1⟩
      have n109 : ((s[k].toNat : Int) == 109) = false := by rw [beq_eq_false_iff_ne]; omega
      have HQ : Hid (R = none) := Lib.hid (by rw [← HRK.out, hd]; exact word_none (fun h => by rcases h with h | h <;> rw [h] at a101 a109 <;> simp at a101 a109) (simp_bad (by exact ⟨a69, a71, a105, a120, a119, a118, a99, a110, a111, a113⟩)))
      clear hd HRK hfr hvk c2 c3 c4 c5 c6 c7 c8 c9
      rw [HQ.out]
      go_wp2
      go_ret
      exact ⟨rfl, HK.out, fun x hx => by cases hx⟩
    · have hks : k = s.size := by omega
      have HQ : Hid (R = some (ok, 0, false)) := Lib.hid (by rw [← HRK.out, hks, List.drop_eq_nil_of_le (by rw [byB_len]; exact Nat.le_refl _)]; rfl)
      have q1 : ¬ (k : Int) < (s.size : Int) := by omega
      have HST := Lib.hid hSt
      have HK := Lib.hid hK
      clear HRK h hv hSt hK
      go_wp2
      go_ret
      rw [HQ.out]
      exact ⟨rfl, HK.out, fun x hx => by cases hx; exact HST.out⟩

end Go.Proofs.YtkcgbdoplhgbmaaDoor
