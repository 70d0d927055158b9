/- option.refused and option.Parse as contracts. Conditions: the words lie in memory; their lengths; where the error values lie; the cell of the library's own number. -/
import Derived.Test.YtkcgbdoplhgbmaaDoorOWd
import Derived.Test.YtkcgbdoplhgbmaaDoorFEr
import Derived.Test.YtkcgbdoplhgbmaaDoorOVal
namespace Go.Proofs.YtkcgbdoplhgbmaaDoor
open Go Go.RowKit Go.Extern.Stop Go.Stop Go.Extern

theorem refused_any (i : Int) (A : Nat → Addr) (w : World) (h : ErrsAt w A) :
    Calls Tryd.prog 67 #[.int .i64 i] w fun e w' => ∃ v', e = .returned v' ∧ Ext w w' ∧ FErr w' A 19 [(true, i)] v' := by
  have v19 := h.var 18 (by omega)
  simp only [gb, gbs, List.getD_cons_zero, List.getD_cons_succ] at v19
  have H0 : Hid (FErr w A 19 [] (errV (A 18))) := Lib.hid (.inr ⟨by decide, A 18, rfl, h.blk 18 (by omega), fun _ _ => rfl, fun h => by omega⟩)
  have HIN := Lib.hid (in_any i A 19 [] (errV (A 18)) w H0.out)
  clear h H0
  go_enter Tryd.func67, Tryd.ntmps67
  go_wp2_with (go_at_call 48; refine HIN.out.mono ?_; rintro e w1 ⟨v1, rfl, hx1, hf1⟩)
  go_ret
  exact ⟨_, rfl, hx1, hf1⟩

theorem FErr.keepsZ {w w' : World} {A : Nat → Addr} {l : List (Bool × Int)} {v : Value} {z : Nat} {cs : Array Value} (h : FErr w A 19 l v) (hz : Blk w z 46 cs) (hk : Keeps (· = z) w w') (hA : (A 18).block ≠ z) : FErr w' A 19 l v := by
  rcases h with ⟨h, _⟩ | ⟨h0, a, h1, ⟨c, t, h2⟩, h3, h4⟩
  · exact absurd h (by decide)
  · have ea : a = A 18 := h3 (by decide) (by decide)
    subst ea
    refine .inr ⟨h0, A 18, h1.keeps hk (fun g i _ ⟨cs', hb⟩ e => by subst e; exact hb.ne hz (by cases i <;> decide) rfl), ⟨c, t, ?_⟩, h3, h4⟩
    exact (hk.block _ (Blk.lt (t := t) (cs := c) h2) hA).trans h2
theorem RdSt.cellI {W : World} {B b : Nat} {wv : Value} {i : Nat} {o : Ops} {t : Nat} (h : RdSt W B b wv i o t) :
    W.cell? ⟨b, 1, none⟩ = some (.int .i64 i) ∧ W.cell? ⟨b, 11, none⟩ = some (.int .i64 t) ∧ W.frozen? ⟨b, 1, none⟩ = false ∧ B ≤ b := by
  obtain ⟨pv, ps, h1, h2, h3, h4⟩ := h
  exact ⟨h2.cell 1, h2.cell 11, h2.frozen 1, h1⟩

/-- How many words are left. -/
def rdM (n b : Nat) (W : World) : Nat := n - (intOf ((W.cell? ⟨b, 1, none⟩).getD undef)).toNat
theorem RdSt.left {W : World} {B b : Nat} {wv : Value} {i : Nat} {o : Ops} {t : Nat} (h : RdSt W B b wv i o t) (n : Nat) : rdM n b W = n - i := by
  unfold rdM
  rw [h.cellI.1]
  rfl

/-- How much words hold. -/
def totP (ws : List (List UInt8)) : Nat := (ws.map fun w => w.length + 1).sum
theorem totP_cons (w : List UInt8) (r : List (List UInt8)) : totP (w :: r) = w.length + 1 + totP r := by simp [totP]
theorem tot_len (ws : List (List UInt8)) : ws.length ≤ totP ws := by
  induction ws with
  | nil => exact Nat.le_refl _
  | cons w r ih => rw [totP_cons, List.length_cons]; omega
theorem word_len (nx : Option (List UInt8)) : ∀ (l : List UInt8) (o o' : Ops) (dt : Nat) (took : Bool), wordP l nx o = some (o', dt, took) →
    dt ≤ 1 ∧ (took = true → ∃ y, nx = some y ∧ o'.pats.length ≤ o.pats.length + y.length + 1) ∧ (took = false → o'.pats.length ≤ o.pats.length + l.length + 1)
  | [], o, o', dt, took, h => by
    cases h
    exact ⟨by omega, fun h => (by cases h), fun _ => (by simp only [List.length_nil]; omega)⟩
  | b :: r, o, o', dt, took, h => by
    by_cases hb : b = 101 ∨ b = 109
    · rcases ha : argP r nx with _ | ⟨x, tk⟩
      · rw [word_no hb ha] at h
        cases h
      · have hx := partsP_len x
        have har : tk = true → nx = some x := fun ht => by
          unfold argP at ha
          split at ha
          · cases ha; cases ht
          · cases nx with
            | none => cases ha
            | some y => cases ha; rfl
        have har2 : tk = false → x = r := fun ht => by
          unfold argP at ha
          split at ha
          · cases ha; rfl
          · cases nx with
            | none => cases ha
            | some y => cases ha; cases ht
        rcases hb with rfl | rfl
        · rw [word_e ha] at h
          cases h
          refine ⟨by omega, fun ht => ⟨x, har ht, by simp only [List.length_append]; omega⟩, fun ht => ?_⟩
          have := har2 ht
          subst this
          simp only [List.length_append, List.length_cons]
          omega
        · rw [word_m ha] at h
          rcases hn : numbP x with _ | nb
          · rw [hn] at h; cases h
          · rw [hn] at h
            cases h
            exact ⟨by omega, fun ht => ⟨x, har ht, by dsimp only; omega⟩, fun _ => by dsimp only; omega⟩
    · rcases hs : simpP b o with _ | o2
      · rw [word_none hb hs] at h; cases h
      · rw [word_step hb hs] at h
        obtain ⟨h1, h2, h3⟩ := word_len nx r o2 o' dt took h
        have hp : o2.pats = o.pats := by
          rcases hi : isSimp b with _ | _
          · rw [simp_no hi] at hs; cases hs
          · obtain ⟨o3, h4, h5, _⟩ := simp_of hi o
            rw [hs] at h4
            cases h4
            exact h5
        rw [hp] at h2 h3
        exact ⟨h1, h2, fun ht => by have := h3 ht; rw [List.length_cons]; omega⟩

/-- What a parse answers: options, an error's number, its links. -/
def pO (R : Except Nat Ops) : Ops := match R with | .ok o => o | .error _ => zeroO
def pN (R : Except Nat Ops) : Int := match R with | .ok _ => 0 | .error _ => 19
def pL (R : Except Nat Ops) : List (Bool × Int) := match R with | .ok _ => [] | .error k => [(true, (k : Int))]
/-- Options in memory, their patterns their own. -/
def OpV (W : World) (B : Nat) (o : Ops) (v : Value) : Prop := ∃ (pv : Value) (ps : List ByteArray), v = opV o pv ∧ Own1 W B 9 pv (ps.map Value.string) ∧ ps.map byB = o.pats
def ParR (w0 : World) (A : Nat → Addr) (R : Except Nat Ops) (e : Ending) (w' : World) : Prop :=
  ∃ ov ev, e = .returned (.tuple #[ov, ev]) ∧ Ext w0 w' ∧ OpV w' w0.heap.size (pO R) ov ∧ FErr w' A (pN R) (pL R) ev

set_option maxRecDepth 100000 in
set_option maxHeartbeats 8000000 in
theorem oparse_any (w0 : World) (wv : Value) (ws : List ByteArray) (A : Nat → Addr) (m : Int) (hW : RdT w0 wv ws) (hl : totP (ws.map byB) ≤ 1000000000) (hE : ErrsAt w0 A) (hm : w0.cell? ⟨22, 0, none⟩ = some (.int .i64 m)) :
    Calls Tryd.prog 30 #[wv] w0 (ParR w0 A (parsedP (ws.map byB))) := by
  generalize hR : parsedP (ws.map byB) = R
  have HR := Lib.hid hR
  clear hR
  have HWW := Lib.hid hW
  have HM := Lib.hid hm
  have HE := Lib.hid hE
  obtain ⟨AA, c, rfl, hlc, hcs⟩ := hW
  have HCS := Lib.hid hcs
  clear hcs hm hE
  go_enter Tryd.func30, Tryd.ntmps30
  go_upto_region 1 with (refine wpl_allocOp rfl rfl ?_; intro z w1 hz hx1 hz0 hzl)
  go_cut [4] (fun p wx => ∃ b, p = .pointer (some ⟨b, 0, none⟩) ∧ Blk wx b 87 (rdC (.slice AA ws.length c) 0 noOps (.slice none 0 0) 0) ∧ Ext w1 wx ∧ w1.heap.size ≤ b)
  case first =>
    go_wp2_with (refine wpl_boxRd rfl _ rfl (.slice AA ws.length c) 0 0 noOps (.slice none 0 0) rfl ?_; intro b w2 hb hx2 hb0 hbl)
    go_meet
    case rel => exact ⟨b, rfl, hb, hx2, hb0⟩
  obtain ⟨b, rfl, hb, hx2, hb0⟩ := hcut
  obtain ⟨w2, hw2⟩ : ∃ w, w = wc := ⟨_, rfl⟩
  subst hw2
  have hbl := hb.lt
  have hbB : w1.heap.size ≤ b := hb0
  have hzb : z ≠ b := by omega
  have H0 : Hid (RdSt w2 w1.heap.size b (.slice AA ws.length c) 0 noOps 0) := Lib.hid ⟨_, [], hbB, hb, Own1.nil _ _ _, rfl⟩
  have HX1 := Lib.hid hx1
  have HX2 := Lib.hid hx2
  have HZ1 := Lib.hid hz
  clear hb hz hx1 hx2
  go_step
  go_step
  go_cut [5, 6] (fun _ _ wx => ∃ (i t : Nat) (o : Ops), i ≤ ws.length ∧ RdSt wx w1.heap.size b (.slice AA ws.length c) i o t ∧ Ext w1 wx ∧ t ≤ i ∧ Hid (o.pats.length + totP ((ws.map byB).drop i) ≤ 1000000000) ∧ Hid (endP ((ws.map byB).drop i) i o t = R))
  case first =>
    go_wp2
    go_loopw [5, 6] (fun _ _ wr => ∃ (f i t : Nat) (o : Ops), i ≤ ws.length ∧ ws.length - i ≤ f ∧ RdSt wr w1.heap.size b (.slice AA ws.length c) i o t ∧ Ext w1 wr ∧ t ≤ i ∧ Hid (invO o) ∧ Hid (o.pats.length + totP ((ws.map byB).drop i) ≤ 1000000000) ∧ Hid (parseP f ((ws.map byB).drop i) i o t = R)) (fun _ _ wr => rdM ws.length b wr)
    case atStart => exact ⟨ws.length, 0, 0, noOps, Nat.zero_le _, Nat.le_refl _, H0.out, HX2.out, Nat.le_refl _, Lib.hid inv_no, Lib.hid (by simpa [noOps] using hl), Lib.hid (by rw [← HR.out]; unfold parsedP; rw [List.length_map, List.drop_zero])⟩
    case round =>
      obtain ⟨f, i, t, o, hi, hf, hSt, hx, hti, HIV, HTO, HPA⟩ := hrel
      obtain ⟨w3, hw3⟩ : ∃ w, w = wr := ⟨_, rfl⟩
      subst hw3
      have hll : ws.length ≤ 1000000000 := by
        have := tot_len (ws.map byB)
        rw [List.length_map] at this
        omega
      obtain ⟨c1, c11, f1, _⟩ := hSt.cellI
      have HST := Lib.hid hSt
      have HX := Lib.hid hx
      clear hSt hx H0
      by_cases hlt : i < ws.length
      · have q1 : (i : Int) < (ws.length : Int) := by omega
        obtain ⟨f', rfl⟩ : ∃ f', f = f' + 1 := ⟨f - 1, by omega⟩
        obtain ⟨g, off, rfl, hcell⟩ := HCS.out i hlt
        have hgx : ws.getD i ⟨#[]⟩ = ws[i] := by rw [List.getD_eq_getElem?_getD, List.getElem?_eq_getElem hlt]; rfl
        rw [hgx] at hcell
        replace hcell := (HX1.out.trans HX.out).cell hcell
        have hD : (ws.map byB).drop i = byB ws[i] :: (ws.map byB).drop (i + 1) := by
          rw [List.drop_eq_getElem_cons (by simpa using hlt)]
          simp
        have hpd := HPA.out
        have hto := HTO.out
        rw [hD] at hpd hto
        rw [totP_cons, byB_len] at hto
        have HD := Lib.hid hD
        have HPD := Lib.hid hpd
        have HNX : Hid (((ws.map byB).drop (i + 1)).head? = ws[i + 1]?.map byB) := Lib.hid (by rw [List.head?_drop, List.getElem?_map])
        have HTL : Hid (((ws.map byB).drop (i + 1)).tail = (ws.map byB).drop (i + 2)) := Lib.hid (by rw [List.tail_drop])
        have HTO2 := Lib.hid hto
        have HW1 : Hid (wrap64 ((i : Int) + 1) = (i : Int) + 1) := Lib.hid (by unfold wrap64; omega)
        clear hgx hD hpd hto HPA HTO
        generalize ws[i] = x at *
        by_cases h1 : byB x = [45, 45]
        · have n1 : (x.toList == [45, 45]) = true := by rw [ByteArray.toList_eq, beq_iff_eq]; exact h1
          have HEN : Hid (endP ((ws.map byB).drop (i + 1)) (i + 1) o t = R) := Lib.hid (by rw [← HPD.out, parseP, if_pos h1])
          have hset := HST.out.setI (i + 1)
          rw [show ((i + 1 : Nat) : Int) = (i : Int) + 1 by omega] at hset
          have HSE := Lib.hid hset
          clear h1 HPD hset
          go_wp2
          go_meet
          case rel => exact ⟨i + 1, t, o, hlt, HSE.out.1, HX.out.keeps HSE.out.2 (fun _ h1 h2 => by omega), by omega, Lib.hid (by have := HTO2.out; omega), HEN⟩
        have n1 : (x.toList == [45, 45]) = false := by
          rw [ByteArray.toList_eq, beq_eq_false_iff_ne]
          exact h1
        by_cases h2 : x.size < 2
        · have HEN : Hid (endP ((ws.map byB).drop i) i o t = R) := Lib.hid (by rw [← HPD.out, parseP, if_neg h1, if_pos (.inl (by rw [byB_len]; exact h2)), HD.out])
          have q2 : (x.size : Int) < 2 := by omega
          clear h1 HPD h2
          go_wp2
          go_meet
          case rel => exact ⟨i, t, o, by omega, HST.out, HX.out, hti, Lib.hid (by have := HTO2.out; rw [HD.out, totP_cons, byB_len]; omega), HEN⟩
        have q2 : ¬ (x.size : Int) < 2 := by omega
        have hx0 : 0 < x.size := by omega
        have hhd : (byB x).head? = some x[0] := by
          have := drop_get x 0 hx0
          rw [List.drop_zero] at this
          show x.data.toList.head? = _
          rw [this]
          rfl
        by_cases h3 : x[0] = 45
        · have q3 : x[0].toNat = 45 := by rw [h3]; rfl
          have HWD := Lib.hid (oword_any w1 w3 b (.slice (some ⟨g, off, none⟩) ws.length c) ws i o t m HST.out (HWW.out.ext HX1.out) HX.out hll hlt x HIV.out (by omega) (by
            intro z hz
            have h9 := HTO2.out
            have h8 : (ws.map byB).drop (i + 1) = byB z :: (ws.map byB).drop (i + 2) := by
              obtain ⟨hz1, hz2⟩ := List.getElem?_eq_some_iff.1 hz
              rw [List.drop_eq_getElem_cons (by simpa using hz1)]
              simp [hz2]
            rw [h8, totP_cons, byB_len] at h9
            omega) (by have := HTO2.out; omega) (by omega) (HX1.out.cell HM.out))
          have hpw : parseP (f' + 1) (byB x :: (ws.map byB).drop (i + 1)) i o t = (match wordP ((byB x).drop 1) (ws[i + 1]?.map byB) o with
              | none => .error i
              | some (o', dt, took) => if took then parseP f' ((ws.map byB).drop (i + 2)) (i + 2) o' (t + dt) else parseP f' ((ws.map byB).drop (i + 1)) (i + 1) o' (t + dt)) := by
            rw [parseP, if_neg h1, if_neg (by rw [hhd, byB_len, h3]; exact fun h => h.elim (fun h => h2 h) (fun h => h rfl)), HNX.out, HTL.out]
            generalize wordP ((byB x).drop 1) (ws[i + 1]?.map byB) o = wp
            rcases wp with _ | ⟨o', dt, took⟩ <;> rfl
          rw [HPD.out] at hpw
          have HPW := Lib.hid hpw
          clear hpw HPD h1 h2 h3 hhd
          have hWI := word_inv (ws[i + 1]?.map byB) ((byB x).drop 1) o
          have hWL := word_len (ws[i + 1]?.map byB) ((byB x).drop 1) o
          rcases hwd : wordP ((byB x).drop 1) (ws[i + 1]?.map byB) o with _ | ⟨o', dt, took⟩
          · have hrr := HPW.out
            rw [hwd] at hrr HWD
            have HRR := Lib.hid hrr
            have HREF := Lib.hid (fun W (hW : Ext w1 W) (k : Int) => refused_any k A W (HE.out.ext (HX1.out.trans hW)))
            have hA18 : (A 18).block ≠ z := by
              obtain ⟨c8, t8, h8⟩ := HE.out.blk 18 (by omega)
              have := Blk.lt (t := t8) (cs := c8) h8
              omega
            clear hrr HPW hwd hWI hWL
            go_wp2_with (first
              | (go_at_call 66; refine HWD.out.mono ?_; rintro e w6 ⟨rfl, hk6, _⟩; have hx6 := HX.out.keeps hk6 (fun _ h1 h2 => by omega))
              | (go_at_call 67; refine (HREF.out _ hx6 _).mono ?_; rintro e w8 ⟨v8, rfl, hx8, hf8⟩)
              | (refine wpl_storeOp rfl _ _ rfl rfl z zeroO _ (.slice none 0 0) _ rfl rfl ⟨none, 0, 0, rfl⟩ (HZ1.out.ext (hx6.trans hx8)) ?_; intro w9 hz9 hk9))
            rw [HRR.out]
            refine ret_op2 rfl rfl rfl rfl hz9 ⟨_, _, rfl, ((HX1.out.trans hx6).trans hx8).keeps hk9 (fun _ h1 h2 => by omega), ⟨_, [], rfl, Own1.nil _ _ _, rfl⟩, hf8.keepsZ (HZ1.out.ext (hx6.trans hx8)) hk9 hA18⟩
          · have hrr := HPW.out
            rw [hwd] at hrr HWD
            obtain ⟨hi1, _, hi3⟩ := hWI o' dt took HIV.out hwd
            obtain ⟨hl1, hl2, hl3⟩ := hWL o' dt took hwd
            obtain ⟨i6, hi6⟩ : ∃ i6, i6 = if took = true then i + 1 else i := ⟨_, rfl⟩
            have hfin : i6 + 1 ≤ ws.length ∧ i ≤ i6 ∧ t + dt ≤ i6 + 1 ∧ o'.pats.length + totP ((ws.map byB).drop (i6 + 1)) ≤ 1000000000 ∧ parseP f' ((ws.map byB).drop (i6 + 1)) (i6 + 1) o' (t + dt) = R := by
              have h9 := HTO2.out
              cases took with
              | true =>
                obtain ⟨y, hy, hyl⟩ := hl2 rfl
                rw [if_pos rfl] at hi6
                subst hi6
                obtain ⟨zz, hz, hzy⟩ := Option.map_eq_some_iff.1 hy
                obtain ⟨hz1, hz2⟩ := List.getElem?_eq_some_iff.1 hz
                have h8 : (ws.map byB).drop (i + 1) = y :: (ws.map byB).drop (i + 2) := by
                  rw [List.drop_eq_getElem_cons (by simpa using hz1)]
                  simp [hz2, hzy]
                rw [h8, totP_cons] at h9
                exact ⟨hz1, by omega, by omega, by show o'.pats.length + totP ((ws.map byB).drop (i + 2)) ≤ _; omega, hrr.symm⟩
              | false =>
                have hyl := hl3 rfl
                rw [if_neg (by decide)] at hi6
                subst hi6
                rw [List.length_drop, byB_len] at hyl
                exact ⟨hlt, by omega, by omega, by omega, hrr.symm⟩
            have HF := Lib.hid hfin
            have HI1 := Lib.hid hi1
            obtain ⟨g1, g2, g3, _, _⟩ := hfin
            have hm6 : ws.length - (i6 + 1) < ws.length - i := by omega
            have HI6 := Lib.hid hi6
            clear hi6 hrr HPW hwd hWI hWL hi1 hi3 hl1 hl2 hl3
            go_wp2_with (go_at_call 66; refine HWD.out.mono ?_; rintro e w6 ⟨rfl, hk6, hh6⟩; have hs6 : RdSt w6 w1.heap.size b (.slice (some ⟨g, off, none⟩) ws.length c) i6 o' (t + dt) := (by have h9 := hh6 _ rfl; rw [HI6.out]; exact h9); obtain ⟨e1, _, ef1, _⟩ := hs6.cellI; have hset := hs6.setI (i6 + 1); rw [show ((i6 + 1 : Nat) : Int) = (i6 : Int) + 1 by omega] at hset; have HSE := Lib.hid hset; clear hset hh6)
            go_roundw
            case rel => exact ⟨f', i6 + 1, t + dt, o', g1, by omega, HSE.out.1, (HX.out.keeps hk6 (fun _ h1 h2 => by omega)).keeps HSE.out.2 (fun _ h1 h2 => by omega), g3, HI1, Lib.hid HF.out.2.2.2.1, Lib.hid HF.out.2.2.2.2⟩
            case measure => rw [HSE.out.1.left, HST.out.left]; exact hm6
        · have q3 : ((x[0].toNat : Int) != 45) = true := by
            rw [bne_iff_ne]
            intro h
            exact h3 (UInt8.toNat_inj.1 (by have : x[0].toNat = 45 := by omega
                                            rw [this]; rfl))
          have HEN : Hid (endP ((ws.map byB).drop i) i o t = R) := Lib.hid (by rw [← HPD.out, parseP, if_neg h1, if_pos (.inr (by rw [hhd]; intro h; injection h with h; exact h3 h)), HD.out])
          clear h1 HPD h2 h3 hhd
          go_wp2
          go_meet
          case rel => exact ⟨i, t, o, by omega, HST.out, HX.out, hti, Lib.hid (by have := HTO2.out; rw [HD.out, totP_cons, byB_len]; omega), HEN⟩
      · have q1 : ¬ (i : Int) < (ws.length : Int) := by omega
        have HEN : Hid (endP ((ws.map byB).drop i) i o t = R) := Lib.hid (by
          rw [← HPA.out, List.drop_eq_nil_of_le (by rw [List.length_map]; omega)]
          cases f <;> rfl)
        clear HPA
        go_wp2
        go_meet
        case rel => exact ⟨i, t, o, hi, HST.out, HX.out, hti, HTO, HEN⟩
  case rest =>
    obtain ⟨i, t, o, hi, hSt, hx, hti, HTO, HEN⟩ := hcut
    obtain ⟨w3, hw3⟩ : ∃ w, w = wc := ⟨_, rfl⟩
    subst hw3
    clear H0 HX2
    have hll : ws.length ≤ 1000000000 := by
      have := tot_len (ws.map byB)
      rw [List.length_map] at this
      omega
    have HREF := Lib.hid (fun W (hW : Ext w1 W) (k : Int) => refused_any k A W (HE.out.ext (HX1.out.trans hW)))
    have hA18 : (A 18).block ≠ z := by
      obtain ⟨c8, t8, h8⟩ := HE.out.blk 18 (by omega)
      have := Blk.lt (t := t8) (cs := c8) h8
      omega
    obtain ⟨c1, c11, f1, _⟩ := hSt.cellI
    have hRd := hSt.opAt
    have HST := Lib.hid hSt
    have HX := Lib.hid hx
    have HZX := Lib.hid (HZ1.out.ext hx)
    have hdr : ∀ j, (h : j < ws.length) → (ws.map byB).drop j = byB ws[j] :: (ws.map byB).drop (j + 1) := fun j h => by
      rw [List.drop_eq_getElem_cons (by simpa using h)]
      simp
    clear hSt hx
    rcases Nat.eq_zero_or_pos t with ht0 | ht0
    · subst ht0
      by_cases hlt : i < ws.length
      · have q1 : (i : Int) < (ws.length : Int) := by omega
        obtain ⟨g, off, rfl, hcell⟩ := HCS.out i hlt
        have hgx : ws.getD i ⟨#[]⟩ = ws[i] := by rw [List.getD_eq_getElem?_getD, List.getElem?_eq_getElem hlt]; rfl
        rw [hgx] at hcell
        replace hcell := (HX1.out.trans HX.out).cell hcell
        have HD := Lib.hid (hdr i hlt)
        have hto := HTO.out
        rw [HD.out, totP_cons, byB_len] at hto
        have HEN2 := Lib.hid HEN.out
        have hen := HEN.out
        rw [HD.out] at hen
        have HEN3 := Lib.hid hen
        generalize ws[i] = x at *
        have HADD := Lib.hid (add_any w3 w1.heap.size b (.slice (some ⟨g, off, none⟩) ws.length c) i o 0 HST.out x m HX.out.size (by omega) (by omega) ((HX1.out.trans HX.out).cell HM.out))
        have hw1 : wrap64 ((i : Int) + 1) = (i : Int) + 1 := by unfold wrap64; omega
        have HDR := Lib.hid hdr
        clear HEN HEN2 hen hto HTO hRd hgx hdr
        go_upto_region 13 with (go_at_call 68; refine HADD.out.mono ?_; rintro e w6 ⟨rfl, hs6, hk6⟩; obtain ⟨e1, e11, ef1, _⟩ := hs6.cellI; have h7 := hs6.setI (i + 1); rw [show ((i + 1 : Nat) : Int) = (i : Int) + 1 by omega] at h7)
        have hx6 := HX.out.keeps hk6 (fun _ h1 h2 => by omega)
        have hx7 := hx6.keeps h7.2 (fun _ h1 h2 => by omega)
        clear hs6 HADD HST HX HZX hk6 hcell c1 c11 f1
        go_upto_region 14 with fail
        obtain ⟨h7, _⟩ := h7
        generalize w6.setCell ⟨b, 1, none⟩ (.int .i64 ((i : Int) + 1)) = w7 at *
        obtain ⟨c1, c11, f1, _⟩ := h7.cellI
        have hRd := h7.opAt
        have HX := Lib.hid hx7
        have HZX := Lib.hid (HZ1.out.ext hx7)
        rw [show ((i + 1 : Nat) : Int) = (i : Int) + 1 by omega] at c1
        clear h7 hx7 hx6 e1 e11 ef1
        by_cases hlt2 : i + 1 < ws.length
        · have q2 : (i : Int) + 1 < (ws.length : Int) := by omega
          have HRR : Hid (R = .error (i + 1)) := Lib.hid (by
            rw [← HEN3.out, HDR.out (i + 1) hlt2]
            rfl)
          clear HEN3 hRd HD HDR
          go_wp2_with (first
            | (go_at_call 67; refine (HREF.out _ HX.out _).mono ?_; rintro e w8 ⟨v8, rfl, hx8, hf8⟩)
            | (refine wpl_storeOp rfl _ _ rfl rfl z zeroO _ (.slice none 0 0) _ rfl rfl ⟨none, 0, 0, rfl⟩ (HZX.out.ext hx8) ?_; intro w9 hz9 hk9))
          rw [HRR.out]
          refine ret_op2 rfl rfl rfl rfl hz9 ⟨_, _, rfl, ((HX1.out.trans HX.out).trans hx8).keeps hk9 (fun _ h1 h2 => by omega), ⟨_, [], rfl, Own1.nil _ _ _, rfl⟩, hf8.keepsZ (HZX.out.ext hx8) hk9 hA18⟩
        · have q2 : ¬ (i : Int) + 1 < (ws.length : Int) := by omega
          have HRR : Hid (R = .ok { o with pats := o.pats ++ partsP (byB x) }) := Lib.hid (by
            rw [← HEN3.out, List.drop_eq_nil_of_le (by rw [List.length_map]; omega)]
            rfl)
          clear HEN3 HD HDR
          obtain ⟨pv, ps, hat, hown, hps, hsl⟩ := hRd
          have HAT := Lib.hid hat
          have HOW := Lib.hid hown
          clear hat hown
          go_wp2_with (first
            | (refine wpl_loadOp rfl _ rfl b 2 { o with pats := o.pats ++ partsP (byB x) } pv rfl HAT.out ?_)
            | (refine wpl_storeOp rfl _ _ rfl rfl z { o with pats := o.pats ++ partsP (byB x) } _ pv _ rfl rfl hsl HZX.out ?_; intro w9 hz9 hk9))
          rw [HRR.out]
          refine ret_op2 rfl rfl rfl rfl hz9 ⟨_, _, rfl, (HX1.out.trans HX.out).keeps hk9 (fun _ h1 h2 => by omega), ⟨pv, ps, rfl, (HOW.out.keeps hk9 (fun k hk e => HOW.out.apartB HZX.out (by decide) (by subst e; exact hk))).mono HX1.out.size, hps⟩, .inl ⟨rfl, rfl⟩⟩
      · have q1 : ¬ (i : Int) < (ws.length : Int) := by omega
        have HRR : Hid (R = .error i) := Lib.hid (by
          rw [← HEN.out, List.drop_eq_nil_of_le (by rw [List.length_map]; omega)]
          rfl)
        clear HEN HTO hRd hdr
        go_wp2_with (first
          | (go_at_call 67; refine (HREF.out _ HX.out _).mono ?_; rintro e w8 ⟨v8, rfl, hx8, hf8⟩)
          | (refine wpl_storeOp rfl _ _ rfl rfl z zeroO _ (.slice none 0 0) _ rfl rfl ⟨none, 0, 0, rfl⟩ (HZX.out.ext hx8) ?_; intro w9 hz9 hk9))
        rw [HRR.out]
        refine ret_op2 rfl rfl rfl rfl hz9 ⟨_, _, rfl, ((HX1.out.trans HX.out).trans hx8).keeps hk9 (fun _ h1 h2 => by omega), ⟨_, [], rfl, Own1.nil _ _ _, rfl⟩, hf8.keepsZ (HZX.out.ext hx8) hk9 hA18⟩
    · have tz : ((t : Int) == 0) = false := by rw [beq_eq_false_iff_ne]; omega
      by_cases hlt : i < ws.length
      · have q1 : (i : Int) < (ws.length : Int) := by omega
        have HRR : Hid (R = .error i) := Lib.hid (by
          rw [← HEN.out, hdr i hlt]
          obtain ⟨t', rfl⟩ : ∃ t', t = t' + 1 := ⟨t - 1, by omega⟩
          rfl)
        clear HEN HTO hRd hdr
        go_wp2_with (first
          | (go_at_call 67; refine (HREF.out _ HX.out _).mono ?_; rintro e w8 ⟨v8, rfl, hx8, hf8⟩)
          | (refine wpl_storeOp rfl _ _ rfl rfl z zeroO _ (.slice none 0 0) _ rfl rfl ⟨none, 0, 0, rfl⟩ (HZX.out.ext hx8) ?_; intro w9 hz9 hk9))
        rw [HRR.out]
        refine ret_op2 rfl rfl rfl rfl hz9 ⟨_, _, rfl, ((HX1.out.trans HX.out).trans hx8).keeps hk9 (fun _ h1 h2 => by omega), ⟨_, [], rfl, Own1.nil _ _ _, rfl⟩, hf8.keepsZ (HZX.out.ext hx8) hk9 hA18⟩
      · have q1 : ¬ (i : Int) < (ws.length : Int) := by omega
        have HRR : Hid (R = .ok o) := Lib.hid (by
          rw [← HEN.out, List.drop_eq_nil_of_le (by rw [List.length_map]; omega)]
          obtain ⟨t', rfl⟩ : ∃ t', t = t' + 1 := ⟨t - 1, by omega⟩
          rfl)
        clear HEN HTO hdr
        obtain ⟨pv, ps, hat, hown, hps, hsl⟩ := hRd
        have HAT := Lib.hid hat
        have HOW := Lib.hid hown
        clear hat hown
        go_wp2_with (first
          | (refine wpl_loadOp rfl _ rfl b 2 o pv rfl HAT.out ?_)
          | (refine wpl_storeOp rfl _ _ rfl rfl z o _ pv _ rfl rfl hsl HZX.out ?_; intro w9 hz9 hk9))
        rw [HRR.out]
        refine ret_op2 rfl rfl rfl rfl hz9 ⟨_, _, rfl, (HX1.out.trans HX.out).keeps hk9 (fun _ h1 h2 => by omega), ⟨pv, ps, rfl, (HOW.out.keeps hk9 (fun k hk e => HOW.out.apartB HZX.out (by decide) (by subst e; exact hk))).mono HX1.out.size, hps⟩, .inl ⟨rfl, rfl⟩⟩

end Go.Proofs.YtkcgbdoplhgbmaaDoor
