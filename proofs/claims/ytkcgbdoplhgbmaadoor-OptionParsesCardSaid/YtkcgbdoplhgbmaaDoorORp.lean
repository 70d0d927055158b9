/- trawlref28.Parse as a contract. Conditions: the words lie in memory; their lengths. -/
import Derived.Test.YtkcgbdoplhgbmaaDoorOSi
import Derived.Test.YtkcgbdoplhgbmaaDoorOPa
import Derived.Test.YtkcgbdoplhgbmaaDoorOPr
import Derived.Test.YtkcgbdoplhgbmaaDoorONum
import Derived.Test.YtkcgbdoplhgbmaaDoorRely
import Derived.Test.YtkcgbdoplhgbmaaDoorMid
namespace Go.Proofs.YtkcgbdoplhgbmaaDoor
open Go Go.RowKit

/-- Which place a parse tells. -/
def pP (R : Except Nat Ops) : Int := match R with | .ok _ => -1 | .error k => (k : Int)
def RParR (w0 : World) (R : Except Nat Ops) (e : Ending) (w' : World) : Prop :=
  ∃ ov, e = .returned (.tuple #[ov, .int .i64 (pN R), .int .i64 (pP R)]) ∧ Ext w0 w' ∧ OpV w' w0.heap.size (pO R) ov

/-- Options under way in block g. -/
def OSt (W : World) (B g : Nat) (o : Ops) : Prop := ∃ (pv : Value) (ps : List ByteArray), Blk W g 46 (opA o pv) ∧ Own1 W B 9 pv (ps.map Value.string) ∧ ps.map byB = o.pats
theorem OSt.ext {W W' : World} {B g : Nat} {o : Ops} (h : OSt W B g o) (hx : Ext W W') : OSt W' B g o := by
  obtain ⟨pv, ps, h1, h2, h3⟩ := h
  exact ⟨pv, ps, h1.ext hx, h2.ext hx, h3⟩
theorem Own1.isS {w : World} {B : Nat} {e : TypeId} {v : Value} {xs : List Value} (h : Own1 w B e v xs) : IsS v := by
  obtain ⟨A, c, hv, _⟩ := h.shape
  exact ⟨A, _, c, hv⟩
theorem OSt.at {W : World} {B g : Nat} {o : Ops} (h : OSt W B g o) : ∃ (pv : Value) (ps : List ByteArray), Blk W g 46 (opA o pv) ∧ Own1 W B 9 pv (ps.map Value.string) ∧ ps.map byB = o.pats ∧ IsS pv := by
  obtain ⟨pv, ps, h1, h2, h3⟩ := h
  exact ⟨pv, ps, h1, h2, h3, h2.isS⟩
/-- A store of options onto the block that keeps the patterns. -/
theorem OSt.put {W W' : World} {B g : Nat} {o o' : Ops} {pv : Value} {ps : List ByteArray} (h1 : Blk W g 46 (opA o pv)) (h2 : Own1 W B 9 pv (ps.map Value.string)) (h3 : ps.map byB = o.pats)
    (hB : Blk W' g 46 (opA o' pv)) (hk : Keeps (· = g) W W') (hp : o'.pats = o.pats) : OSt W' B g o' :=
  ⟨pv, ps, hB, h2.keeps hk (fun _ hk1 e => h2.apartB h1 (by decide) (by subst e; exact hk1)), by rw [hp]; exact h3⟩

theorem wpAnyR_next {P : Program} {ops : Array Oper} {md : Region.Mode} {Q : Exit → Act → World → Prop} {w0 : World} {i : Nat} {o : Oper} {f : Nat} {listed : Array Bool} {a : Act} {w : World} (hr : Region.ready md ops listed = [i]) (ho : ops[i]? = some o)
    (h : ∀ w', Ext w w' → wpList P ops (stepQ fun a' w'' => Ext w0 w'' ∧ wpAnyR P md ops Q w0 f (listed.setIfInBounds i true) a' w'') [o] a w') : wpAnyR P md ops Q w0 (f + 1) listed a w :=
  wpAnyR_all hr (by simp) fun w' hx j hj => by
    rw [List.mem_singleton] at hj
    subst hj
    exact wpOp_of_list ho (fun _ _ h => h) (h w' hx)
theorem Own1.news {w : World} {B : Nat} {e : TypeId} {v : Value} {xs : List Value} (h : Own1 w B e v xs) : (v = .slice none 0 0 ∧ xs = []) ∨ ∃ ad c, v = .slice (some ad) xs.length c ∧ ∀ j u, xs[j]? = some u → w.cell? (ad.add j) = some u := by
  rcases h.slice with h0 | ⟨g, cap, cur, rfl, _, _, _, _⟩
  · exact .inl h0
  · refine .inr ⟨_, _, rfl, fun j u hu => ?_⟩
    rw [show (⟨g, 0, none⟩ : Addr).add j = ⟨g, j, none⟩ from (by unfold Addr.add; split <;> simp_all)]
    exact h.cells.2 j u hu

/-- What follows the option words. -/
def dashE (ws : List (List UInt8)) (i : Nat) (o : Ops) (t : Nat) : Except Nat Ops := match ws with
  | [] => endP [] i o t
  | w :: r => if w = [45, 45] then endP r (i + 1) o t else endP (w :: r) i o t
theorem parse_dash {f : Nat} {w : List UInt8} {r : List (List UInt8)} {i t : Nat} {o : Ops} (h : w = [45, 45] ∨ w.length < 2 ∨ w.head? ≠ some 45) : parseP (f + 1) (w :: r) i o t = dashE (w :: r) i o t := by
  unfold dashE
  rw [parseP]
  by_cases hw : w = [45, 45]
  · simp only [if_pos hw]
  · simp only [if_neg hw]
    rw [if_pos (by rcases h with h | h; exact absurd h hw; exact h)]
/-- The end, when no text is left to take. -/
theorem end_fin {ws : List (List UInt8)} {i t : Nat} {o : Ops} (h : ¬ (t = 0 ∧ ws ≠ [])) : endP ws i o t = if t = 0 ∨ ws ≠ [] then .error i else .ok o := by
  match t, ws, h with
  | 0, [], _ => rfl
  | 0, _ :: _, h => exact absurd ⟨rfl, by simp⟩ h
  | _ + 1, [], _ => rfl
  | _ + 1, _ :: _, _ => simp [endP]
/-- A word that adds no text leaves the patterns. -/
theorem word_pats (nx : Option (List UInt8)) : ∀ (l : List UInt8) (o o' : Ops) (took : Bool), wordP l nx o = some (o', 0, took) → o'.pats = o.pats
  | [], o, o', took, h => by cases h; rfl
  | b :: r, o, o', took, h => by
    by_cases hb : b = 101 ∨ b = 109
    · rcases ha : argP r nx with _ | ⟨x, tk⟩
      · rw [word_no hb ha] at h
        cases h
      · rcases hb with rfl | rfl
        · rw [word_e ha] at h
          cases h
        · rw [word_m ha] at h
          rcases hn : numbP x with _ | nb
          · rw [hn] at h; cases h
          · rw [hn] at h
            cases h
            rfl
    · rcases hs : simpP b o with _ | o2
      · rw [word_none hb hs] at h; cases h
      · rw [word_step hb hs] at h
        have ih := word_pats nx r o2 o' took h
        rcases hi : isSimp b with _ | _
        · rw [simp_no hi] at hs; cases hs
        · obtain ⟨o3, h4, h5, _⟩ := simp_of hi o
          rw [hs] at h4
          cases h4
          rw [ih, h5]

/-- What follows an option word. -/
def contW (r : List (List UInt8)) (f i t : Nat) : Option (Ops × Nat × Bool) → Except Nat Ops
  | none => .error i
  | some (o', dt, took) => if took then parseP f r.tail (i + 2) o' (t + dt) else parseP f r (i + 1) o' (t + dt)
theorem parse_cont {f : Nat} {w : List UInt8} {r : List (List UInt8)} {i t : Nat} {o : Ops} (h1 : w ≠ [45, 45]) (h2 : 2 ≤ w.length) (h3 : w.head? = some 45) :
    parseP (f + 1) (w :: r) i o t = contW r f i t (wordP (w.drop 1) r.head? o) := by
  rw [parseP, if_neg h1, if_neg (fun h => h.elim (fun h => by omega) (fun h => h h3))]
  generalize wordP (w.drop 1) r.head? o = R
  rcases R with _ | ⟨o', dt, took⟩ <;> rfl

theorem ret_op3 {a : Act} {w : World} {fn : Func} {x y z : Tmp} {R : Ending → World → Prop} {g : Nat} {p : Ops} {pv e d : Value} (hr : fn.results = #[.cell x 46, .tmp y, .tmp z]) (hp : a.tmps.getD x undef = .pointer (some ⟨g, 0, none⟩)) (he : a.tmps.getD y undef = e) (hz : a.tmps.getD z undef = d) (hd : a.defers = [])
    (hB : Blk w g 46 (opA p pv)) (hR : R (.returned (.tuple #[opV p pv, e, d])) w) : bodyPost Tryd.prog fn R .ret a w := by
  refine bodyPost_ret (v := .tuple #[opV p pv, e, d]) ?_ hd hR
  have h1 := run_loadVar_row (P := Tryd.prog) w g 46 46 (opA p pv) (0, 0) _ hB Tryd.underlying46 rfl (info_opA p pv)
  have hp' : a.tmps[x]?.getD undef = .pointer (some ⟨g, 0, none⟩) := by simpa using hp
  have he' : a.tmps[y]?.getD undef = e := by simpa using he
  have hz' : a.tmps[z]?.getD undef = d := by simpa using hz
  simp [results, hr, hp', he', hz', asAddr, h1, opV]

set_option maxRecDepth 100000 in
set_option maxHeartbeats 64000000 in
theorem rparse_any (w0 : World) (wv : Value) (ws : List ByteArray) (hW : RdT w0 wv ws) (hl : totP (ws.map byB) ≤ 1000000000) :
    Calls Tryd.prog 31 #[wv] w0 (RParR w0 (parsedP (ws.map byB))) := by
  generalize hR : parsedP (ws.map byB) = R
  have HR := Lib.hid hR
  clear hR
  have HWW := Lib.hid hW
  obtain ⟨AA, c, rfl, hlc, hcs⟩ := hW
  have HCS := Lib.hid hcs
  clear hcs
  go_enter Tryd.func31, Tryd.ntmps31
  go_upto_region 1 with (refine wpl_allocOp rfl rfl ?_; intro z w1 hz hx1 hz0 hzl)
  go_cut [5] (fun p wx => ∃ g, p = .pointer (some ⟨g, 0, none⟩) ∧ OSt wx w1.heap.size g noOps ∧ Ext w1 wx ∧ w1.heap.size ≤ g)
  case first =>
    go_wp2_with (first
      | (refine wpl_allocOp rfl rfl ?_; intro g w2 hg hx2 hg0 hgl)
      | (refine wpl_storeOp rfl _ _ rfl rfl g noOps zeroO (.slice none 0 0) (.slice none 0 0) rfl rfl ⟨none, 0, 0, rfl⟩ hg ?_; intro w3 hg3 hk3))
    go_meet
    case rel => exact ⟨g, rfl, ⟨_, [], hg3, Own1.nil _ _ _, rfl⟩, hx2.keeps hk3 (fun _ h1 h2 => by omega), hg0⟩
  obtain ⟨g, rfl, hSt, hx2, hg0⟩ := hcut
  obtain ⟨w2, hw2⟩ : ∃ w, w = wc := ⟨_, rfl⟩
  subst hw2
  have hgz : z ≠ g := by omega
  have H0 := Lib.hid hSt
  have HX1 := Lib.hid hx1
  have HX2 := Lib.hid hx2
  have HZ1 := Lib.hid hz
  clear hSt hz hx1 hx2
  go_upto_region 3 with fail
  go_cut [7] (fun iv wx => iv = .int .i64 0 ∧ w2 = wx)
  case first =>
    go_wp2
    go_meet
    case rel => exact ⟨rfl, rfl⟩
  obtain ⟨rfl, rfl⟩ := hcut
  go_step
  go_step
  go_cut [6, 7] (fun tv iv wx => ∃ (i t : Nat) (o : Ops), tv = .int .i64 t ∧ iv = .int .i64 i ∧ i ≤ ws.length ∧ OSt wx w1.heap.size g o ∧ Ext w1 wx ∧ t ≤ i ∧ (t = 0 → o.pats = []) ∧ Hid (o.pats.length + totP ((ws.map byB).drop i) ≤ 1000000000) ∧ Hid (dashE ((ws.map byB).drop i) i o t = R))
  case first =>
    go_wp2
    go_loopw [6, 7] (fun tv iv wr => ∃ (f i t : Nat) (o : Ops), tv = .int .i64 t ∧ iv = .int .i64 i ∧ i ≤ ws.length ∧ ws.length - i ≤ f ∧ OSt wr w1.heap.size g o ∧ Ext w1 wr ∧ t ≤ i ∧ (t = 0 → o.pats = []) ∧ Hid (invO o) ∧ Hid (o.pats.length + totP ((ws.map byB).drop i) ≤ 1000000000) ∧ Hid (parseP f ((ws.map byB).drop i) i o t = R)) (fun _ iv _ => ws.length - (intOf iv).toNat)
    case atStart => exact ⟨ws.length, 0, 0, noOps, rfl, rfl, Nat.zero_le _, Nat.le_refl _, H0.out, HX2.out, Nat.le_refl _, fun _ => rfl, Lib.hid inv_no, Lib.hid (by simpa [noOps] using hl), Lib.hid (by rw [← HR.out]; unfold parsedP; rw [List.length_map, List.drop_zero])⟩
    case round =>
      obtain ⟨f, i, t, o, rfl, rfl, hi, hf, hSt, hx, hti, hp0, HIV, HTO, HPA⟩ := hrel
      obtain ⟨w3, hw3⟩ : ∃ w, w = wr := ⟨_, rfl⟩
      subst hw3
      have hll : ws.length ≤ 1000000000 := by
        have := tot_len (ws.map byB)
        rw [List.length_map] at this
        omega
      have HST := Lib.hid hSt
      have HX := Lib.hid hx
      have HP0 := Lib.hid hp0
      clear hSt hx H0 hp0
      by_cases hlt : i < ws.length
      · have q1 : (i : Int) < (ws.length : Int) := by omega
        obtain ⟨f', rfl⟩ : ∃ f', f = f' + 1 := ⟨f - 1, by omega⟩
        obtain ⟨gw, off, rfl, hcell⟩ := HCS.out i hlt
        have hgx : ws.getD i ⟨#[]⟩ = ws[i] := by rw [List.getD_eq_getElem?_getD, List.getElem?_eq_getElem hlt]; rfl
        rw [hgx] at hcell
        replace hcell := (HX1.out.trans HX.out).cell hcell
        have hD : (ws.map byB).drop i = byB ws[i] :: (ws.map byB).drop (i + 1) := by
          rw [List.drop_eq_getElem_cons (by simpa using hlt)]
          simp
        have hpd := HPA.out
        have hto := HTO.out
        rw [hD] at hpd hto
        rw [totP_cons, byB_len] at hto
        have HD := Lib.hid hD
        have HPD := Lib.hid hpd
        have HNX : Hid (((ws.map byB).drop (i + 1)).head? = ws[i + 1]?.map byB) := Lib.hid (by rw [List.head?_drop, List.getElem?_map])
        have HTL : Hid (((ws.map byB).drop (i + 1)).tail = (ws.map byB).drop (i + 2)) := Lib.hid (by rw [List.tail_drop])
        have HTO2 := Lib.hid hto
        have HW1 : Hid (wrap64 ((i : Int) + 1) = (i : Int) + 1) := Lib.hid (by unfold wrap64; omega)
        clear hgx hD hpd hto HPA
        generalize ws[i] = x at *
        by_cases hopt : byB x ≠ [45, 45] ∧ 2 ≤ x.size ∧ (byB x).head? = some 45
        case neg =>
          as_aux_lemma =>
            have HEN : Hid (dashE ((ws.map byB).drop i) i o t = R) := Lib.hid (by
              rw [HD.out, ← HPD.out]
              refine (parse_dash ?_).symm
              by_cases h1 : byB x = [45, 45]
              · exact .inl h1
              · by_cases h2 : 2 ≤ x.size
                · exact .inr (.inr fun h3 => hopt ⟨h1, h2, h3⟩)
                · exact .inr (.inl (by rw [byB_len]; omega)))
            by_cases h2 : 2 ≤ x.size
            · have q2 : 1 < (x.size : Int) := by omega
              have hx0 : 0 < x.size := by omega
              have hhd : (byB x).head? = some x[0] := by
                have := drop_get x 0 hx0
                rw [List.drop_zero] at this
                show x.data.toList.head? = _
                rw [this]
                rfl
              by_cases h3 : x[0] = 45
              · have q3 : x[0].toNat = 45 := by rw [h3]; rfl
                have n1 : (x.toList != [45, 45]) = false := by
                  rw [ByteArray.toList_eq, bne_eq_false_iff_eq]
                  by_cases h1 : byB x = [45, 45]
                  · exact h1
                  · exact absurd ⟨h1, h2, by rw [hhd, h3]⟩ hopt
                have n2 : (x.toList == [45, 45]) = true := by simpa using n1
                clear hopt hhd HPD h3
                go_wp2
                go_meet
                case rel => exact ⟨i, t, o, rfl, rfl, hi, HST.out, HX.out, hti, HP0.out, HTO, HEN⟩
              · have q3 : ((x[0].toNat : Int) == 45) = false := by
                  rw [beq_eq_false_iff_ne]
                  intro h
                  exact h3 (UInt8.toNat_inj.1 (by have : x[0].toNat = 45 := by omega
                                                  rw [this]; rfl))
                clear hopt hhd HPD h3
                go_wp2
                go_meet
                case rel => exact ⟨i, t, o, rfl, rfl, hi, HST.out, HX.out, hti, HP0.out, HTO, HEN⟩
            · have q2 : ¬ 1 < (x.size : Int) := by omega
              clear hopt HPD h2
              go_wp2
              go_meet
              case rel => exact ⟨i, t, o, rfl, rfl, hi, HST.out, HX.out, hti, HP0.out, HTO, HEN⟩
        obtain ⟨h1, h2, h3⟩ := hopt
        have hx0 : 0 < x.size := by omega
        have hhd : (byB x).head? = some x[0] := by
          have := drop_get x 0 hx0
          rw [List.drop_zero] at this
          show x.data.toList.head? = _
          rw [this]
          rfl
        have q2 : 1 < (x.size : Int) := by omega
        have hx45 : x[0] = 45 := by rw [hhd] at h3; injection h3
        have q3 : x[0].toNat = 45 := by rw [hx45]; rfl
        have n1 : (x.toList != [45, 45]) = true := by
          rw [bne_iff_ne, ByteArray.toList_eq]
          exact h1
        have n2 : (x.toList == [45, 45]) = false := by simpa using n1
        have n3 : ¬ x.toList = [45, 45] := by simpa using n1
        generalize hWR : wordP ((byB x).drop 1) (ws[i + 1]?.map byB) o = WR
        have HWR := Lib.hid hWR
        have HPW : Hid (contW ((ws.map byB).drop (i + 1)) f' i t WR = R) := Lib.hid (by
          rw [← hWR, ← HPD.out, ← HNX.out]
          exact (parse_cont h1 (by rw [byB_len]; exact h2) h3).symm)
        clear h1 h3 hhd hx45 hWR HPD
        go_upto_region 6 with fail
        go_cut [9] (fun kv wx => kv = .int .i64 i ∧ w3 = wx)
        case first =>
          go_wp2
          go_meet
          case rel => exact ⟨rfl, rfl⟩
        obtain ⟨rfl, rfl⟩ := hcut
        go_step
        go_step
        go_cut [6, 7] (fun tv iv wx => ∃ (o' : Ops) (dt : Nat) (took : Bool), Hid (WR = some (o', dt, took)) ∧ tv = .int .i64 (t + dt : Nat) ∧ iv = .int .i64 (if took then i + 1 else i : Nat) ∧ OSt wx w1.heap.size g o' ∧ Ext w1 wx)
        case first =>
          go_wp2
          go_loopw [6, 7, 10] (fun tv iv kv wr => ∃ (k : Nat) (ok : Ops), tv = .int .i64 t ∧ iv = .int .i64 i ∧ 1 ≤ k ∧ k ≤ x.size ∧ kv = .int .i64 k ∧ OSt wr w1.heap.size g ok ∧ Ext w1 wr ∧ invO ok ∧ ok.pats = o.pats ∧ Hid (wordP ((byB x).drop k) (ws[i + 1]?.map byB) ok = WR)) (fun _ _ kv _ => x.size - (intOf kv).toNat)
          case atStart => exact ⟨1, o, rfl, rfl, Nat.le_refl _, by omega, rfl, HST.out, HX.out, HIV.out, rfl, HWR⟩
          case round =>
            obtain ⟨k, ok, rfl, rfl, hk1, hk, rfl, hSt, hx, hvk, hpk, HRK⟩ := hrel
            obtain ⟨w4, hw4⟩ : ∃ w, w = wr := ⟨_, rfl⟩
            subst hw4
            have HSK := Lib.hid hSt
            have HXK := Lib.hid hx
            clear hx
            by_cases hlk : k < x.size
            · have hd : (byB x).drop k = x[k] :: (byB x).drop (k + 1) := drop_get x k hlk
              have q1' : (k : Int) < (x.size : Int) := by omega
              have hxs : x.size ≤ 1000000000 := by have := HTO2.out; omega
              by_cases hem : x[k] = 101 ∨ x[k] = 109
              · --EM
                by_cases h101 : x[k] = 101
                · --E
                  as_aux_lemma =>
                    have eb : x[k] = 101 := h101
                    have qa : x[k].toNat = 101 := by rw [eb]; rfl
                    have hro : (byB x).drop (k + 1) = byB (x.extract (k + 1) x.size) := by rw [byB_extract, List.take_of_length_le (by rw [List.length_drop, byB_len]; omega)]
                    have hrs : (x.extract (k + 1) x.size).size ≤ x.size := by rw [← byB_len, ← hro, List.length_drop, byB_len]; omega
                    go_upto_region 15 with fail
                    go_cut [13] (fun av wx => av = .string (x.extract (k + 1) x.size) ∧ w4 = wx)
                    case first =>
                      go_wp2
                      go_meet
                      case rel => exact ⟨rfl, rfl⟩
                    obtain ⟨rfl, rfl⟩ := hcut
                    generalize x.extract (k + 1) x.size = rs at *
                    have HRO := Lib.hid hro
                    clear hro
                    go_step
                    go_step
                    go_cut [7, 13] (fun iv av wx => ∃ (a : ByteArray) (took : Bool), Hid (argP ((byB x).drop (k + 1)) (ws[i + 1]?.map byB) = some (byB a, took)) ∧ av = .string a ∧ iv = .int .i64 (if took then i + 1 else i : Nat) ∧ w4 = wx)
                    case first =>
                      by_cases hre : byB rs ≠ []
                      · have HA : Hid (argP ((byB x).drop (k + 1)) (ws[i + 1]?.map byB) = some (byB rs, false)) := Lib.hid (by rw [HRO.out]; exact if_pos hre)
                        have t1 : rs.toList.isEmpty = false := by
                          rw [ByteArray.toList_eq, List.isEmpty_eq_false_iff]
                          exact hre
                        clear hre
                        go_wp2
                        go_meet
                        case rel => exact ⟨rs, false, HA, rfl, rfl, rfl⟩
                      · have hr' : byB rs = [] := by simpa using hre
                        have t1 : rs.toList.isEmpty = true := by
                          rw [ByteArray.toList_eq, List.isEmpty_iff]
                          exact hr'
                        by_cases hlt2 : i + 1 < ws.length
                        · obtain ⟨gw2, off2, hA2, hcell2⟩ := HCS.out (i + 1) hlt2
                          obtain ⟨rfl, rfl⟩ : gw = gw2 ∧ off = off2 := by injection hA2 with hA2; injection hA2 with h1 h2; exact ⟨h1, h2⟩
                          have hgx2 : ws.getD (i + 1) ⟨#[]⟩ = ws[i + 1] := by rw [List.getD_eq_getElem?_getD, List.getElem?_eq_getElem hlt2]; rfl
                          rw [hgx2] at hcell2
                          replace hcell2 := (HX1.out.trans HXK.out).cell hcell2
                          have HA : Hid (argP ((byB x).drop (k + 1)) (ws[i + 1]?.map byB) = some (byB ws[i + 1], true)) := Lib.hid (by unfold argP; rw [HRO.out, if_neg hre, List.getElem?_eq_getElem hlt2]; rfl)
                          have hge : (i : Int) + 1 < (ws.length : Int) := by omega
                          clear hgx2 hA2 hre hr' hcell
                          generalize ws[i + 1] = a at *
                          go_wp2
                          go_meet
                          case rel => exact ⟨a, true, HA, rfl, by go_num, rfl⟩
                        · have hWN : WR = none := by rw [← HRK.out, hd]; exact word_no hem (by unfold argP; rw [HRO.out, if_neg hre, List.getElem?_eq_none (by omega)]; rfl)
                          have HRR : Hid (R = .error i) := Lib.hid (by rw [← HPW.out, hWN]; rfl)
                          have HZX := Lib.hid (HZ1.out.ext HXK.out)
                          have hge : ¬ (i : Int) + 1 < (ws.length : Int) := by omega
                          clear hWN hre hr' HRK HPW hd
                          go_upto_region 19 with fail
                          repeat (first | (refine wpl_storeOp rfl _ _ rfl rfl z zeroO _ (.slice none 0 0) _ rfl rfl ⟨none, 0, 0, rfl⟩ HZX.out ?_; intro w9 hz9 hk9) | go_skip | go_guarded | go_step | go_upon)
                          rw [HRR.out]
                          refine ret_op3 rfl rfl rfl rfl rfl hz9 ⟨_, rfl, (HX1.out.trans HXK.out).keeps hk9 (fun _ h1 h2 => by omega), ⟨_, [], rfl, Own1.nil _ _ _, rfl⟩⟩
                    case rest =>
                      obtain ⟨a, took, HA, rfl, rfl, rfl⟩ := hcut
                      have HE : Hid (WR = some ({ ok with pats := ok.pats ++ partsP (byB a) }, 1, took)) := Lib.hid (by rw [← HRK.out, hd, eb]; exact word_e HA.out)
                      have has : ok.pats.length + a.size ≤ 1000000000 := by
                        have h9 := HTO2.out
                        rw [hpk]
                        rcases arg_or HA.out with h | h
                        · have := congrArg List.length h
                          rw [List.length_drop, byB_len, byB_len] at this
                          omega
                        · rw [Option.map_eq_some_iff] at h
                          obtain ⟨zz, hz, hzy⟩ := h
                          obtain ⟨hz1, hz2⟩ := List.getElem?_eq_some_iff.1 hz
                          have h8 : (ws.map byB).drop (i + 1) = byB a :: (ws.map byB).drop (i + 2) := by
                            rw [List.drop_eq_getElem_cons (by simpa using hz1)]
                            simp [hz2, hzy]
                          rw [h8, totP_cons, byB_len] at h9
                          omega
                      obtain ⟨pv, ps, hb, hown, hps, hsl⟩ := hSt.at
                      have hpl : ps.length + a.size ≤ 1000000000 := by rw [← hps, List.length_map] at has; exact has
                      have HPL := Lib.hid hpl
                      have HB := Lib.hid hb
                      have HOW := Lib.hid hown
                      have HPS := Lib.hid hps
                      have c10 : w4.cell? ⟨g, 8, none⟩ = some pv := hb.cell 8
                      have HRP := Lib.hid (fun W' => rparts_any a W' (by omega))
                      generalize hi7 : (if took = true then i + 1 else i) = i7
                      have HI7 := Lib.hid hi7
                      clear hi7 hd hem hb hown hps hpl HRK HST hSt HRO hrs HPW
                      go_upto_region 22 with fail
                      go_cut [13] (fun _ wx => OSt wx w1.heap.size g { ok with pats := ok.pats ++ partsP (byB a) } ∧ Ext w1 wx)
                      case first =>
                        refine wp_region_mid (fun W' => Ext w4 W') 4 (by kernel_rfl) ?_
                        refine wpAnyM_pure (i := 0) rfl (by kernel_rfl) (by kernel_rfl) (by kernel_rfl) (by decide) (fun _ _ _ h => h) (Ext.refl w4).drew rfl (fun W => by go_simp; try rfl) ?_
                        simp only [Act.put, List.setIfInBounds_toArray]
                        refine wpAnyM_take (i := 1) (v := pv) [4] rfl (by kernel_rfl) (by kernel_rfl) (by kernel_rfl) (by kernel_rfl) (fun _ _ _ h => h) (Ext.refl w4).drew (yieldsIf_value rfl (fun W' hW => by have k5' := Ext.cell hW c10; go_simp; try rfl)) ?_
                        simp only [Act.put]
                        refine wpAnyM_pure (i := 2) rfl (by kernel_rfl) (by kernel_rfl) (by kernel_rfl) (by decide) (fun _ _ _ h => h) (Ext.refl w4).drew rfl (fun W => by go_simp; try rfl) ?_
                        simp only [Act.put]
                        have HXW := Lib.hid (HRP.out w4.drew)
                        refine wpAnyM_step (i := 3) (by kernel_rfl) rfl (by decide) ?_
                        go_wp2_with (go_at_call 70; refine HXW.out.mono ?_; rintro e w5 ⟨lv, ls, rfl, hls, how, hx5⟩)
                        replace hx5 := (Ext.refl w4).drew.trans hx5
                        have hsz4 : w4.heap.size ≤ w5.heap.size := hx5.size
                        have hnews := how.news
                        refine stepQ_ok ⟨hx5, ?_⟩
                        have hlp : ls.length ≤ a.size + 1 := by
                          have := congrArg List.length hls
                          rw [List.length_map] at this
                          have h9 := partsP_len (byB a)
                          rw [byB_len] at h9
                          omega
                        have HLP := Lib.hid hlp
                        have HLS := Lib.hid hls
                        have hbb := HB.out.ext hx5
                        have hap : pv.ownBlock ≠ some g := (HOW.out.ext hx5).apartB hbb (by decide)
                        refine wpAnyM_now (by kernel_rfl) rfl ?_
                        refine wpList_appK rfl (.tmp 99) (.tmp 101) 43 rfl w1.heap.size 9 (.string ⟨#[]⟩) 16 Tryd.underlying43 info_str rfl pv (ps.map Value.string) (ls.map Value.string) rfl (HOW.out.ext hx5) hnews (by intro u hu; obtain ⟨x, _, rfl⟩ := List.mem_map.1 hu; rfl) (by have := HPL.out; have := HLP.out; simp; omega) (by have := HPL.out; have := HLP.out; simp; omega) (by have := HXK.out.size; omega) ?_
                        intro v6 w6 own6 hg6 _ _
                        have hK6 := (Keeps.refl (fun k => pv.ownBlock = some k) w5).grown hg6 (fun k hk => .inr hk)
                        have hb6 := hbb.keeps hK6 hap
                        have HOO := Lib.hid (HOW.out.own)
                        have HX6 := Lib.hid ((HXK.out.trans hx5).keeps hK6 (fun k h1 h2 => by have := (HOO.out k h2).1; omega))
                        obtain ⟨A6, cc6, rfl, hcc6⟩ := own6.shape
                        refine stepQ_end ?_
                        simp only [Act.put, List.setIfInBounds_toArray]
                        clear hg6 hK6 hap hbb hx5 hls how hnews c10
                        have e6 : (ps.map Value.string ++ ls.map Value.string).length = ps.length + ls.length := by simp
                        rw [e6] at own6 hcc6 ⊢
                        have f8 := hb6.frozen 8
                        have c8 : w6.cell? ⟨g, 8, none⟩ = some pv := hb6.cell 8
                        refine wpAny_next (i := 5) (by kernel_rfl) rfl ?_
                        go_wp2
                        refine stepQ_ok ?_
                        refine wpAny_end (i := 6) (by kernel_rfl) rfl (by kernel_rfl) ?_
                        have hb7 := hb6.set 8 (.slice A6 (ps.length + ls.length) cc6)
                        have hO7 : Own1 (w6.setCell ⟨g, 8, none⟩ (.slice A6 (ps.length + ls.length) cc6)) w1.heap.size 9 (.slice A6 (ps.length + ls.length) cc6) (ps.map Value.string ++ ls.map Value.string) := own6.keeps ((Keeps.refl (· = g) w6).setCell (p := ⟨g, 8, none⟩) (.inr rfl) _) (fun k hk e => own6.apartB hb6 (by decide) (by subst e; exact hk))
                        have hX7 := HX6.out.keeps ((Keeps.refl (· = g) w6).setCell (p := ⟨g, 8, none⟩) (.inr rfl) (.slice A6 (ps.length + ls.length) cc6)) (fun _ h1 h2 => by omega)
                        have HF7 := Lib.hid (And.intro hb7 (And.intro hO7 hX7))
                        clear hb7 hO7 hX7 hb6 own6
                        go_wp2
                        go_meet
                        case rel => exact ⟨⟨_, ps ++ ls, HF7.out.1, by rw [List.map_append]; exact HF7.out.2.1, by rw [List.map_append, HPS.out, HLS.out]⟩, HF7.out.2.2⟩
                      case rest =>
                        obtain ⟨hSt, hx⟩ := hcut
                        have HSN := Lib.hid hSt
                        have HXN := Lib.hid hx
                        clear hSt hx HB HOW c10 HRP
                        go_wp2
                        go_meet
                        case rel => exact ⟨_, 1, took, HE, by go_num, by rw [HI7.out], HSN.out, HXN.out⟩
                · --M
                  as_aux_lemma =>
                    have eb : x[k] = 109 := hem.resolve_left h101
                    have qa : x[k].toNat = 109 := by rw [eb]; rfl
                    have hro : (byB x).drop (k + 1) = byB (x.extract (k + 1) x.size) := by rw [byB_extract, List.take_of_length_le (by rw [List.length_drop, byB_len]; omega)]
                    have hrs : (x.extract (k + 1) x.size).size ≤ x.size := by rw [← byB_len, ← hro, List.length_drop, byB_len]; omega
                    go_upto_region 15 with fail
                    go_cut [13] (fun av wx => av = .string (x.extract (k + 1) x.size) ∧ w4 = wx)
                    case first =>
                      go_wp2
                      go_meet
                      case rel => exact ⟨rfl, rfl⟩
                    obtain ⟨rfl, rfl⟩ := hcut
                    generalize x.extract (k + 1) x.size = rs at *
                    have HRO := Lib.hid hro
                    clear hro
                    go_step
                    go_step
                    go_cut [7, 13] (fun iv av wx => ∃ (a : ByteArray) (took : Bool), Hid (argP ((byB x).drop (k + 1)) (ws[i + 1]?.map byB) = some (byB a, took)) ∧ av = .string a ∧ iv = .int .i64 (if took then i + 1 else i : Nat) ∧ w4 = wx)
                    case first =>
                      by_cases hre : byB rs ≠ []
                      · have HA : Hid (argP ((byB x).drop (k + 1)) (ws[i + 1]?.map byB) = some (byB rs, false)) := Lib.hid (by rw [HRO.out]; exact if_pos hre)
                        have t1 : rs.toList.isEmpty = false := by
                          rw [ByteArray.toList_eq, List.isEmpty_eq_false_iff]
                          exact hre
                        clear hre
                        go_wp2
                        go_meet
                        case rel => exact ⟨rs, false, HA, rfl, rfl, rfl⟩
                      · have hr' : byB rs = [] := by simpa using hre
                        have t1 : rs.toList.isEmpty = true := by
                          rw [ByteArray.toList_eq, List.isEmpty_iff]
                          exact hr'
                        by_cases hlt2 : i + 1 < ws.length
                        · obtain ⟨gw2, off2, hA2, hcell2⟩ := HCS.out (i + 1) hlt2
                          obtain ⟨rfl, rfl⟩ : gw = gw2 ∧ off = off2 := by injection hA2 with hA2; injection hA2 with h1 h2; exact ⟨h1, h2⟩
                          have hgx2 : ws.getD (i + 1) ⟨#[]⟩ = ws[i + 1] := by rw [List.getD_eq_getElem?_getD, List.getElem?_eq_getElem hlt2]; rfl
                          rw [hgx2] at hcell2
                          replace hcell2 := (HX1.out.trans HXK.out).cell hcell2
                          have HA : Hid (argP ((byB x).drop (k + 1)) (ws[i + 1]?.map byB) = some (byB ws[i + 1], true)) := Lib.hid (by unfold argP; rw [HRO.out, if_neg hre, List.getElem?_eq_getElem hlt2]; rfl)
                          have hge : (i : Int) + 1 < (ws.length : Int) := by omega
                          clear hgx2 hA2 hre hr' hcell
                          generalize ws[i + 1] = a at *
                          go_wp2
                          go_meet
                          case rel => exact ⟨a, true, HA, rfl, by go_num, rfl⟩
                        · have hWN : WR = none := by rw [← HRK.out, hd]; exact word_no hem (by unfold argP; rw [HRO.out, if_neg hre, List.getElem?_eq_none (by omega)]; rfl)
                          have HRR : Hid (R = .error i) := Lib.hid (by rw [← HPW.out, hWN]; rfl)
                          have HZX := Lib.hid (HZ1.out.ext HXK.out)
                          have hge : ¬ (i : Int) + 1 < (ws.length : Int) := by omega
                          clear hWN hre hr' HRK HPW hd
                          go_upto_region 19 with fail
                          repeat (first | (refine wpl_storeOp rfl _ _ rfl rfl z zeroO _ (.slice none 0 0) _ rfl rfl ⟨none, 0, 0, rfl⟩ HZX.out ?_; intro w9 hz9 hk9) | go_skip | go_guarded | go_step | go_upon)
                          rw [HRR.out]
                          refine ret_op3 rfl rfl rfl rfl rfl hz9 ⟨_, rfl, (HX1.out.trans HXK.out).keeps hk9 (fun _ h1 h2 => by omega), ⟨_, [], rfl, Own1.nil _ _ _, rfl⟩⟩
                    case rest =>
                      obtain ⟨a, took, HA, rfl, rfl, rfl⟩ := hcut
                      obtain ⟨pv, ps, hb, hown, hps, hsl⟩ := hSt.at
                      have c7 : w4.cell? ⟨g, 7, none⟩ = some (.int .i64 ok.most) := hb.cell 7
                      have f7 := hb.frozen 7
                      have HB := Lib.hid hb
                      have HOW := Lib.hid hown
                      have HPS := Lib.hid hps
                      have HCN := Lib.hid (fun W => rnumber_any a W)
                      clear hb hown hps hSt HST HRO hrs
                      rcases hn : numbP (byB a) with _ | nb
                      · have hWN : WR = none := by rw [← HRK.out, hd, eb, word_m HA.out, hn]; rfl
                        have HRR : Hid (R = .error i) := Lib.hid (by rw [← HPW.out, hWN]; rfl)
                        have hq : rnumP (byB a) = -1 := by unfold rnumP; rw [hn]
                        rw [hq] at HCN
                        have hk2 := (Keeps.refl (· = g) w4).setCell (p := ⟨g, 7, none⟩) (.inr rfl) (.int .i64 (-1))
                        have HK2 := Lib.hid (HXK.out.keeps hk2 (fun _ h1 h2 => by omega))
                        have HZX := Lib.hid ((HZ1.out.ext HXK.out).keeps hk2 (fun h => hgz h))
                        generalize (if took = true then i + 1 else i) = i7
                        clear hWN hn hq hk2 HRK HPW hd hem HA
                        go_upto_region 26 with (go_at_call 71; refine (HCN.out _).mono ?_; rintro e w5 ⟨rfl, rfl⟩)
                        repeat (first | (refine wpl_storeOp rfl _ _ rfl rfl z zeroO _ (.slice none 0 0) _ rfl rfl ⟨none, 0, 0, rfl⟩ HZX.out ?_; intro w9 hz9 hk9) | go_skip | go_guarded | go_step | go_upon)
                        rw [HRR.out]
                        refine ret_op3 rfl rfl rfl rfl rfl hz9 ⟨_, rfl, (HX1.out.trans HK2.out).keeps hk9 (fun _ h1 h2 => by omega), ⟨_, [], rfl, Own1.nil _ _ _, rfl⟩⟩
                      · have HE : Hid (WR = some ({ ok with most := (nb : Nat) }, 0, took)) := Lib.hid (by rw [← HRK.out, hd, eb, word_m HA.out, hn]; rfl)
                        have hq : rnumP (byB a) = (nb : Int) := by unfold rnumP; rw [hn]
                        rw [hq] at HCN
                        have hnl := num_le hn
                        have hset := HB.out.set 7 (.int .i64 (nb : Nat))
                        have hk2 := (Keeps.refl (· = g) w4).setCell (p := ⟨g, 7, none⟩) (.inr rfl) (.int .i64 (nb : Nat))
                        have HK2 := Lib.hid (HXK.out.keeps hk2 (fun _ h1 h2 => by omega))
                        have HS2 : Hid (OSt (w4.setCell ⟨g, 7, none⟩ (.int .i64 (nb : Nat))) w1.heap.size g { ok with most := (nb : Nat) }) := Lib.hid (OSt.put HB.out HOW.out HPS.out hset hk2 rfl)
                        have hq0 : ¬ ((nb : Nat) : Int) < 0 := by omega
                        generalize hi7 : (if took = true then i + 1 else i) = i7
                        have HI7 := Lib.hid hi7
                        clear hi7 hn hq hset hk2 HRK HPW hd hem HA HB HOW HPS
                        go_wp2_with (go_at_call 71; refine (HCN.out _).mono ?_; rintro e w5 ⟨rfl, rfl⟩)
                        go_meet
                        case rel => exact ⟨_, 0, took, HE, by rw [Nat.add_zero], by rw [HI7.out], HS2.out, HK2.out⟩
              · --SIMPLE
                as_aux_lemma =>
                  have n101 : ((x[k].toNat : Int) != 101) = true := by
                    rw [bne_iff_ne]
                    intro h
                    exact hem (.inl (UInt8.toNat_inj.1 (by have : x[k].toNat = 101 := by omega
                                                           rw [this]; rfl)))
                  have n109 : ((x[k].toNat : Int) != 109) = true := by
                    rw [bne_iff_ne]
                    intro h
                    exact hem (.inr (UInt8.toNat_inj.1 (by have : x[k].toNat = 109 := by omega
                                                           rw [this]; rfl)))
                  obtain ⟨pv, ps, hb, hown, hps, hsl⟩ := hSt.at
                  obtain ⟨Sr, hSr⟩ : ∃ Sr, Sr = simpP x[k] ok := ⟨_, rfl⟩
                  have HSR := Lib.hid hSr
                  have HC := Lib.hid (fun W (_ : Ext w4 W) => rsimple_any ok pv hsl x[k] W ⟨hvk.1, hvk.2.1⟩)
                  rw [← hSr] at HC
                  have HB := Lib.hid hb
                  have HOW := Lib.hid hown
                  have HPS := Lib.hid hps
                  have HD := Lib.hid hd
                  have HVK := Lib.hid hvk
                  have HEM := Lib.hid hem
                  clear hSr hb hown hps hd hvk hem hSt HST
                  go_upto_region 11 with fail
                  go_cut [11, 12] (fun p okv wx => ∃ g2, p = .pointer (some ⟨g2, 0, none⟩) ∧ okv = .bool Sr.isSome ∧ Blk wx g2 46 (opA (Sr.getD ok) pv) ∧ Ext w4 wx ∧ w4.heap.size ≤ g2)
                  case first =>
                    refine wp_region_rely (by kernel_rfl) ?_
                    refine wpAnyR_take (i := 0) (oi := ⟨some 64, _, _, _, _, none⟩) (v := opV ok pv) rfl (by kernel_rfl) (by kernel_rfl) (by kernel_rfl) (fun _ _ _ h => h) (Ext.refl w4).drew (yieldsR_load_row rfl 46 (.tmp 5) rfl g rfl _ _ _ HB.out Tryd.underlying46 rfl (info_opA ok pv)) ?_
                    simp only [Act.put, List.setIfInBounds_toArray, List.set_cons_zero, List.set_cons_succ]
                    refine wpAnyR_take (i := 1) (oi := ⟨some 65, _, _, _, _, none⟩) (v := .string x) rfl (by kernel_rfl) (by kernel_rfl) (by kernel_rfl) (fun _ _ _ h => h) (Ext.refl w4).drew (yieldsR_value rfl (fun W hW => by go_simp; try rfl)) ?_
                    simp only [Act.put, List.setIfInBounds_toArray, List.set_cons_zero, List.set_cons_succ]
                    refine wpAnyR_take (i := 2) (oi := ⟨some 66, _, _, _, _, none⟩) (v := .int .i64 k) rfl (by kernel_rfl) (by kernel_rfl) (by kernel_rfl) (fun _ _ _ h => h) (Ext.refl w4).drew (yieldsR_value rfl (fun W hW => by go_simp; try rfl)) ?_
                    simp only [Act.put, List.setIfInBounds_toArray, List.set_cons_zero, List.set_cons_succ]
                    refine wpAnyR_take (i := 3) (oi := ⟨some 67, _, _, _, _, none⟩) (v := .int .u8 x[k].toNat) rfl (by kernel_rfl) (by kernel_rfl) (by kernel_rfl) (fun _ _ _ h => h) (Ext.refl w4).drew (yieldsR_value rfl (fun W hW => by go_simp; try rfl)) ?_
                    simp only [Act.put, List.setIfInBounds_toArray, List.set_cons_zero, List.set_cons_succ]
                    refine wpAnyR_take (i := 4) (oi := ⟨some 68, _, _, _, _, none⟩) (v := .tuple #[opV (Sr.getD ok) pv, .bool Sr.isSome]) rfl (by kernel_rfl) (by kernel_rfl) (by kernel_rfl) (fun _ _ _ h => h) (Ext.refl w4).drew (yieldsR_call (f := 69) (args := #[opV ok pv, .int .u8 x[k].toNat]) rfl (fun _ => by go_simp; try rfl) (fun W hW => (HC.out W hW).mono fun e w' h => ⟨h.2, h.1⟩)) ?_
                    simp only [Act.put, List.setIfInBounds_toArray, List.set_cons_zero, List.set_cons_succ]
                    refine wpAnyR_take (i := 5) (oi := ⟨some 63, _, _, _, _, none⟩) (v := .tuple #[opV (Sr.getD ok) pv, .bool Sr.isSome]) rfl (by kernel_rfl) (by kernel_rfl) (by kernel_rfl) (fun _ _ _ h => h) (Ext.refl w4).drew (yieldsR_value rfl (fun W hW => by go_simp; try rfl)) ?_
                    simp only [Act.put, List.setIfInBounds_toArray, List.set_cons_zero, List.set_cons_succ]
                    refine wpAnyR_take (i := 6) (oi := ⟨some 69, _, _, _, _, none⟩) (v := opV (Sr.getD ok) pv) rfl (by kernel_rfl) (by kernel_rfl) (by kernel_rfl) (fun _ _ _ h => h) (Ext.refl w4).drew (yieldsR_value rfl (fun W hW => by go_simp; try rfl)) ?_
                    simp only [Act.put, List.setIfInBounds_toArray, List.set_cons_zero, List.set_cons_succ]
                    refine wpAnyR_take (i := 7) (oi := ⟨some 70, _, _, _, _, none⟩) (v := .bool Sr.isSome) rfl (by kernel_rfl) (by kernel_rfl) (by kernel_rfl) (fun _ _ _ h => h) (Ext.refl w4).drew (yieldsR_value rfl (fun W hW => by go_simp; try rfl)) ?_
                    simp only [Act.put, List.setIfInBounds_toArray, List.set_cons_zero, List.set_cons_succ]
                    refine wpAnyR_ready (rs := [8]) (by kernel_rfl) (by simp) fun w5 hx5 => ?_
                    have hx5 : Ext w4 w5 := (Ext.refl w4).drew.trans hx5
                    refine AllReadyR.cons (o := ⟨some 11, _, _, _, _, none⟩) rfl rfl (fun K hK => wp_alloc_zero (cs := opA zeroO (.slice none 0 0)) rfl (fun _ => rfl) (hK _ _ (hx5.alloc _) ?_)) .nil
                    clear hK K
                    simp only [Act.put, List.setIfInBounds_toArray, List.set_cons_zero, List.set_cons_succ]
                    have hG := Blk.new w5 46 (opA zeroO (.slice none 0 0))
                    have hX := hx5.alloc (.cells (opA zeroO (.slice none 0 0)) 46)
                    have hsz5 := hx5.size
                    generalize w5.alloc (.cells (opA zeroO (.slice none 0 0)) 46) = w6 at *
                    generalize w5.heap.size = g2 at *
                    refine wpAnyR_next (i := 9) (o := ⟨none, _, _, _, _, none⟩) (by kernel_rfl) rfl fun w7 hx7 => ?_
                    refine wpl_storeOp rfl _ _ rfl rfl g2 (Sr.getD ok) zeroO pv (.slice none 0 0) rfl rfl hsl (hG.ext hx7) ?_
                    intro w8 hg8 hk8
                    have k1 := (hX.trans hx7).keeps hk8 (fun _ h1 h2 => by omega)
                    refine stepQ_end ⟨k1, ?_⟩
                    refine wpAnyR_next (i := 10) (o := ⟨some 12, _, _, _, _, none⟩) (by kernel_rfl) rfl fun w9 hx9 => ?_
                    go_wp2
                    refine stepQ_ok ⟨k1.trans hx9, ?_⟩
                    refine wpAnyR_done (by kernel_rfl) (fun w10 hx10 => ?_) _
                    have HRL := Lib.hid (And.intro (hg8.ext (hx9.trans hx10)) (k1.trans (hx9.trans hx10)))
                    clear hg8 hk8 k1 hx7 hx9 hx10 hX hG
                    repeat (first | go_skip | go_guarded | go_step | go_upon)
                    go_meet
                    case rel => exact ⟨g2, rfl, rfl, HRL.out.1, HRL.out.2, hsz5⟩
                  case rest =>
                    obtain ⟨g2, rfl, rfl, hb2, hx5, hg2⟩ := hcut
                    obtain ⟨w5, hw5⟩ : ∃ w, w = wc := ⟨_, rfl⟩
                    subst hw5
                    have HX5 := Lib.hid (HXK.out.trans hx5)
                    have HB5 := Lib.hid (HB.out.ext hx5)
                    have HO5 := Lib.hid (HOW.out.ext hx5)
                    have HB2 := Lib.hid hb2
                    clear HC HB HOW hb2
                    rcases hsr : Sr with _ | o2
                    · have hsr' := HSR.out
                      rw [hsr] at hsr'
                      have hWN : WR = none := by rw [← HRK.out, HD.out]; exact word_none HEM.out hsr'.symm
                      have HRR : Hid (R = .error i) := Lib.hid (by rw [← HPW.out, hWN]; rfl)
                      have HZX := Lib.hid (HZ1.out.ext HX5.out)
                      simp only [Option.isSome_none]
                      clear hsr hsr' hWN HSR HRK HPW HD HB2
                      repeat (first | (refine wpl_storeOp rfl _ _ rfl rfl z zeroO _ (.slice none 0 0) _ rfl rfl ⟨none, 0, 0, rfl⟩ HZX.out ?_; intro w9 hz9 hk9) | go_skip | go_guarded | go_step | go_upon)
                      rw [HRR.out]
                      refine ret_op3 rfl rfl rfl rfl rfl hz9 ⟨_, rfl, (HX1.out.trans HX5.out).keeps hk9 (fun _ h1 h2 => by omega), ⟨_, [], rfl, Own1.nil _ _ _, rfl⟩⟩
                    · have hsr' := HSR.out
                      rw [hsr] at hsr' HB2
                      obtain ⟨o3, hs3, hp3, hq3, hf3, hm3⟩ : ∃ o', simpP x[k] ok = some o' ∧ o'.pats = ok.pats ∧ o'.most = ok.most ∧ ((0 ≤ ok.fl ∧ ok.fl ≤ 3) → (0 ≤ o'.fl ∧ o'.fl ≤ 3)) ∧ ((0 ≤ ok.md ∧ ok.md ≤ 3) → (0 ≤ o'.md ∧ o'.md ≤ 3)) := by
                        rcases hi : isSimp x[k] with _ | _
                        · rw [simp_no hi] at hsr'; cases hsr'
                        · exact simp_of hi ok
                      rw [hs3] at hsr'
                      obtain rfl : o2 = o3 := by injection hsr'
                      have HRK2 : Hid (wordP ((byB x).drop (k + 1)) (ws[i + 1]?.map byB) o2 = WR) := Lib.hid (by rw [← HRK.out, HD.out]; exact (word_step HEM.out hs3).symm)
                      have HV2 : Hid (invO o2) := Lib.hid ⟨hf3 HVK.out.1, hm3 HVK.out.2.1, by rw [hq3]; exact HVK.out.2.2.1, by rw [hp3]; exact HVK.out.2.2.2⟩
                      have HP2 : Hid (o2.pats = o.pats) := Lib.hid (by rw [hp3, hpk])
                      have HP3 := Lib.hid hp3
                      have hb5f := HB5.out
                      simp only [Option.isSome_some]
                      clear hsr hsr' hs3 HSR HRK HD hf3 hm3 hp3 hq3 hb5f
                      go_wp2_with (first
                        | (refine wpl_loadOp rfl _ rfl g2 0 o2 pv rfl (Blk.opAt HB2.out) ?_)
                        | (refine wpl_storeOp rfl _ _ rfl rfl g o2 _ pv _ rfl rfl hsl HB5.out ?_; intro w9 hz9 hk9))
                      go_roundw
                      case rel => exact ⟨k + 1, o2, rfl, rfl, by omega, hlk, by go_num, OSt.put HB5.out HO5.out HPS.out hz9 hk9 HP3.out, HX5.out.keeps hk9 (fun _ h1 h2 => by omega), HV2.out, HP2.out, HRK2⟩
                      case measure =>
                        rw [intOf, intOf]
                        exact meas_lt hlk
            · have q1' : ¬ (k : Int) < (x.size : Int) := by omega
              have HE : Hid (WR = some (ok, 0, false)) := Lib.hid (by
                rw [← HRK.out, List.drop_eq_nil_of_le (by rw [byB_len]; omega)]
                rfl)
              clear HRK HST hSt
              go_wp2
              go_meet
              case rel => exact ⟨ok, 0, false, HE, rfl, rfl, HSK.out, HXK.out⟩
        case rest =>
          as_aux_lemma =>
            obtain ⟨o', dt, took, HE, rfl, rfl, hSt, hx⟩ := hcut
            obtain ⟨w5, hw5⟩ : ∃ w, w = wc := ⟨_, rfl⟩
            subst hw5
            have hwr := HWR.out
            rw [HE.out] at hwr
            obtain ⟨hi1, _, hi3⟩ := word_inv (ws[i + 1]?.map byB) ((byB x).drop 1) o o' dt took HIV.out hwr
            obtain ⟨hl1, hl2, hl3⟩ := word_len (ws[i + 1]?.map byB) ((byB x).drop 1) o o' dt took hwr
            have HP1 : Hid (t + dt = 0 → o'.pats = []) := Lib.hid (fun h => by
              obtain rfl : dt = 0 := by omega
              rw [word_pats _ _ _ _ _ hwr]
              exact HP0.out (by omega))
            have hrr := HPW.out
            rw [HE.out] at hrr
            generalize hi6 : (if took = true then i + 1 else i) = i6
            have hfin : i6 + 1 ≤ ws.length ∧ i ≤ i6 ∧ t + dt ≤ i6 + 1 ∧ o'.pats.length + totP ((ws.map byB).drop (i6 + 1)) ≤ 1000000000 ∧ parseP f' ((ws.map byB).drop (i6 + 1)) (i6 + 1) o' (t + dt) = R := by
              have h9 := HTO2.out
              cases took with
              | true =>
                obtain ⟨y, hy, hyl⟩ := hl2 rfl
                rw [if_pos rfl] at hi6
                subst hi6
                obtain ⟨zz, hz, hzy⟩ := Option.map_eq_some_iff.1 hy
                obtain ⟨hz1, hz2⟩ := List.getElem?_eq_some_iff.1 hz
                have h8 : (ws.map byB).drop (i + 1) = y :: (ws.map byB).drop (i + 2) := by
                  rw [List.drop_eq_getElem_cons (by simpa using hz1)]
                  simp [hz2, hzy]
                rw [h8, totP_cons] at h9
                have hrr' : parseP f' ((ws.map byB).drop (i + 1)).tail (i + 2) o' (t + dt) = R := hrr
                rw [HTL.out] at hrr'
                exact ⟨hz1, by omega, by omega, by show o'.pats.length + totP ((ws.map byB).drop (i + 2)) ≤ _; omega, hrr'⟩
              | false =>
                have hyl := hl3 rfl
                rw [if_neg (by decide)] at hi6
                subst hi6
                rw [List.length_drop, byB_len] at hyl
                exact ⟨hlt, by omega, by omega, by omega, hrr⟩
            have HF := Lib.hid hfin
            have HI1 := Lib.hid hi1
            obtain ⟨g1, g2, g3, _, _⟩ := hfin
            have hm6 : ws.length - (i6 + 1) < ws.length - i := by omega
            have HS5 := Lib.hid hSt
            have HX5 := Lib.hid hx
            clear hi6 hrr HPW hwr hi1 hi3 hl1 hl2 hl3 hSt hx HE HWR HST HX n1 n2 n3 q2 q3
            go_wp2
            go_roundw
            case rel => exact ⟨f', i6 + 1, t + dt, o', rfl, by go_num, g1, by omega, HS5.out, HX5.out, g3, HP1.out, HI1, Lib.hid HF.out.2.2.2.1, Lib.hid HF.out.2.2.2.2⟩
            case measure => simp [intOf]; omega
      · have q1 : ¬ (i : Int) < (ws.length : Int) := by omega
        have HEN : Hid (dashE ((ws.map byB).drop i) i o t = R) := Lib.hid (by
          rw [← HPA.out, List.drop_eq_nil_of_le (by rw [List.length_map]; omega)]
          cases f <;> rfl)
        clear HPA
        go_wp2
        go_meet
        case rel => exact ⟨i, t, o, rfl, rfl, hi, HST.out, HX.out, hti, HP0.out, HTO, HEN⟩
  case rest =>
    as_aux_lemma =>
      obtain ⟨i, t, o, rfl, rfl, hi, hSt, hx, hti, hp0, HTO, HEN⟩ := hcut
      obtain ⟨w3, hw3⟩ : ∃ w, w = wc := ⟨_, rfl⟩
      subst hw3
      have hll : ws.length ≤ 1000000000 := by
        have := tot_len (ws.map byB)
        rw [List.length_map] at this
        omega
      have hdr : ∀ j, (h : j < ws.length) → (ws.map byB).drop j = byB ws[j] :: (ws.map byB).drop (j + 1) := fun j h => by
        rw [List.drop_eq_getElem_cons (by simpa using h)]
        simp
      have HDR := Lib.hid hdr
      have HST := Lib.hid hSt
      have HX := Lib.hid hx
      have HP0 := Lib.hid hp0
      clear H0 HX2 hdr hSt hx hp0
      go_step
      go_step
      go_cut [7] (fun iv wx => ∃ i2 : Nat, iv = .int .i64 i2 ∧ i2 ≤ ws.length ∧ t ≤ i2 ∧ Hid (o.pats.length + totP ((ws.map byB).drop i2) ≤ 1000000000) ∧ Hid (endP ((ws.map byB).drop i2) i2 o t = R) ∧ w3 = wx)
      case first =>
        by_cases hlt : i < ws.length
        · have q1 : (i : Int) < (ws.length : Int) := by omega
          obtain ⟨gw, off, rfl, hcell⟩ := HCS.out i hlt
          have hgx : ws.getD i ⟨#[]⟩ = ws[i] := by rw [List.getD_eq_getElem?_getD, List.getElem?_eq_getElem hlt]; rfl
          rw [hgx] at hcell
          replace hcell := (HX1.out.trans HX.out).cell hcell
          have hen := HEN.out
          have hto := HTO.out
          rw [HDR.out i hlt] at hen hto
          rw [totP_cons] at hto
          have HTO2 := Lib.hid hto
          by_cases h1 : byB ws[i] = [45, 45]
          · have HE2 : Hid (endP ((ws.map byB).drop (i + 1)) (i + 1) o t = R) := Lib.hid (by rw [← hen]; unfold dashE; exact (if_pos h1).symm)
            have n1 : (ws[i].toList == [45, 45]) = true := by rw [ByteArray.toList_eq, beq_iff_eq]; exact h1
            clear hen hto hgx h1
            generalize ws[i] = x at *
            go_wp2
            go_meet
            case rel => exact ⟨i + 1, by go_num, hlt, by omega, Lib.hid (by have := HTO2.out; omega), HE2, rfl⟩
          · have HE2 : Hid (endP ((ws.map byB).drop i) i o t = R) := Lib.hid (by rw [← hen, HDR.out i hlt]; unfold dashE; exact (if_neg h1).symm)
            have n1 : (ws[i].toList == [45, 45]) = false := by rw [ByteArray.toList_eq, beq_eq_false_iff_ne]; exact h1
            clear hen hto hgx h1
            generalize ws[i] = x at *
            go_wp2
            go_meet
            case rel => exact ⟨i, rfl, hi, hti, HTO, HE2, rfl⟩
        · have q1 : ¬ (i : Int) < (ws.length : Int) := by omega
          have HE2 : Hid (endP ((ws.map byB).drop i) i o t = R) := Lib.hid (by
            rw [← HEN.out, List.drop_eq_nil_of_le (by rw [List.length_map]; omega)]
            rfl)
          clear HDR
          go_wp2
          go_meet
          case rel => exact ⟨i, rfl, hi, hti, HTO, HE2, rfl⟩
      case rest =>
      obtain ⟨i2, rfl, hi2, hti2, HTO2, HE2, rfl⟩ := hcut
      clear HTO HEN hi hti
      go_step
      go_step
      go_cut [6, 7] (fun tv iv wx => ∃ (i t : Nat) (o : Ops), tv = .int .i64 t ∧ iv = .int .i64 i ∧ i ≤ ws.length ∧ OSt wx w1.heap.size g o ∧ Ext w1 wx ∧ Hid ((if t = 0 ∨ i < ws.length then .error i else .ok o) = R))
      case first =>
        by_cases hc : t = 0 ∧ i2 < ws.length
        · obtain ⟨rfl, hlt⟩ := hc
          have q1 : (i2 : Int) < (ws.length : Int) := by omega
          obtain ⟨gw, off, rfl, hcell⟩ := HCS.out i2 hlt
          have hgx : ws.getD i2 ⟨#[]⟩ = ws[i2] := by rw [List.getD_eq_getElem?_getD, List.getElem?_eq_getElem hlt]; rfl
          rw [hgx] at hcell
          replace hcell := (HX1.out.trans HX.out).cell hcell
          have hto := HTO2.out
          have hE := HE2.out
          rw [HDR.out i2 hlt] at hto hE
          rw [totP_cons, byB_len] at hto
          have HEX : Hid ((if 1 = 0 ∨ i2 + 1 < ws.length then .error (i2 + 1) else .ok { o with pats := partsP (byB ws[i2]) }) = R) := Lib.hid (by
            rw [← hE, endP, HP0.out rfl, List.nil_append]
            by_cases hl : i2 + 1 < ws.length
            · rw [if_pos (.inr hl), if_neg (by rw [HDR.out _ hl]; simp)]
            · rw [if_neg (by omega), if_pos (List.drop_eq_nil_of_le (by rw [List.length_map]; omega))])
          have HRP := Lib.hid (rparts_any ws[i2] w3 (by omega))
          obtain ⟨pv, ps, hb, hown, hps, hsl⟩ := HST.out.at
          have HB := Lib.hid hb
          have HOW := Lib.hid hown
          clear hto hE hgx HDR hb hown hps
          generalize ws[i2] = x at *
          go_wp2_with (go_at_call 70; refine HRP.out.mono ?_; rintro e w5 ⟨lv, ls, rfl, hls, how, hx5⟩; have hb5 := HB.out.ext hx5; have c8 : w5.cell? ⟨g, 8, none⟩ = some pv := hb5.cell 8; have f8 := hb5.frozen 8; obtain ⟨A5, c5, rfl, _⟩ := how.shape; rw [List.length_map] at how)
          go_meet
          case rel =>
            have hs5 := hx5.size
            have hk := (Keeps.refl (· = g) w5).setCell (p := ⟨g, 8, none⟩) (.inr rfl) (.slice A5 ls.length c5)
            have hsz := HX.out.size
            exact ⟨i2 + 1, 1, { o with pats := partsP (byB x) }, rfl, by go_num, hlt, ⟨_, ls, hb5.set 8 _, (how.mono hsz).keeps hk (fun _ hk1 e => how.apartB hb5 (by decide) (by subst e; exact hk1)), hls⟩, (HX.out.trans hx5).keeps hk (fun _ h1 h2 => by omega), HEX⟩
        · have HEX : Hid ((if t = 0 ∨ i2 < ws.length then .error i2 else .ok o) = R) := Lib.hid (by
            have hne : ∀ j, (ws.map byB).drop j ≠ [] ↔ j < ws.length := fun j => by
              rw [ne_eq, List.drop_eq_nil_iff, List.length_map]; omega
            rw [← HE2.out, end_fin (by rw [hne]; exact hc)]
            simp only [hne])
          rcases Nat.eq_zero_or_pos t with ht0 | ht0
          · subst ht0
            have q1 : ¬ (i2 : Int) < (ws.length : Int) := by omega
            clear hc HDR
            go_wp2
            go_meet
            case rel => exact ⟨i2, 0, o, rfl, rfl, hi2, HST.out, HX.out, HEX⟩
          · have tz : ((t : Int) == 0) = false := by rw [beq_eq_false_iff_ne]; omega
            clear hc HDR
            go_wp2
            go_meet
            case rel => exact ⟨i2, t, o, rfl, rfl, hi2, HST.out, HX.out, HEX⟩
      case rest =>
      obtain ⟨i3, t3, o3, rfl, rfl, hi3, hSt, hx, HEX⟩ := hcut
      obtain ⟨w4, hw4⟩ : ∃ w, w = wc := ⟨_, rfl⟩
      subst hw4
      have HX4 := Lib.hid hx
      have HZX := Lib.hid (HZ1.out.ext hx)
      obtain ⟨pv, ps, hb, hown, hps, hsl⟩ := hSt.at
      have HB := Lib.hid hb
      have HOW := Lib.hid hown
      have HPS := Lib.hid hps
      clear hx hSt hb hown hps HST HX HDR HP0 HTO2 HE2
      by_cases hc : t3 = 0 ∨ i3 < ws.length
      · have HRR : Hid (R = .error i3) := Lib.hid (by rw [← HEX.out, if_pos hc])
        have hgoal : ∀ w9, Blk w9 z 46 (opA zeroO (.slice none 0 0)) → Keeps (· = z) w4 w9 → RParR w0 R (.returned (.tuple #[opV zeroO (.slice none 0 0), .int .i64 19, .int .i64 i3])) w9 := fun w9 _ hk9 => by
          rw [HRR.out]
          exact ⟨_, rfl, (HX1.out.trans HX4.out).keeps hk9 (fun _ h1 h2 => by omega), ⟨_, [], rfl, Own1.nil _ _ _, rfl⟩⟩
        have HG := Lib.hid hgoal
        clear hgoal HRR HEX HB HOW HPS
        rcases Nat.eq_zero_or_pos t3 with ht0 | ht0
        · subst ht0
          clear hc
          go_upto_region 35 with fail
          repeat (first | (refine wpl_storeOp rfl _ _ rfl rfl z zeroO _ (.slice none 0 0) _ rfl rfl ⟨none, 0, 0, rfl⟩ HZX.out ?_; intro w9 hz9 hk9) | go_skip | go_guarded | go_step | go_upon)
          refine ret_op3 rfl rfl rfl rfl rfl hz9 (HG.out _ hz9 hk9)
        · have tz : ((t3 : Int) == 0) = false := by rw [beq_eq_false_iff_ne]; omega
          have q1 : (i3 : Int) < (ws.length : Int) := by omega
          clear hc
          go_upto_region 35 with fail
          repeat (first | (refine wpl_storeOp rfl _ _ rfl rfl z zeroO _ (.slice none 0 0) _ rfl rfl ⟨none, 0, 0, rfl⟩ HZX.out ?_; intro w9 hz9 hk9) | go_skip | go_guarded | go_step | go_upon)
          refine ret_op3 rfl rfl rfl rfl rfl hz9 (HG.out _ hz9 hk9)
      · have HRR : Hid (R = .ok o3) := Lib.hid (by rw [← HEX.out, if_neg hc])
        have tz : ((t3 : Int) == 0) = false := by rw [beq_eq_false_iff_ne]; omega
        have q1 : ¬ (i3 : Int) < (ws.length : Int) := by omega
        clear hc HEX
        go_upto_region 36 with fail
        repeat (first
          | (refine wpl_loadOp rfl _ rfl g 0 o3 pv rfl (Blk.opAt HB.out) ?_)
          | (refine wpl_storeOp rfl _ _ rfl rfl z o3 _ pv _ rfl rfl hsl HZX.out ?_; intro w9 hz9 hk9) | go_skip | go_guarded | go_step | go_upon)
        refine ret_op3 rfl rfl rfl rfl rfl hz9 ?_
        rw [HRR.out]
        exact ⟨_, rfl, (HX1.out.trans HX4.out).keeps hk9 (fun _ h1 h2 => by omega), ⟨pv, ps, rfl, (HOW.out.keeps hk9 (fun k hk e => HOW.out.apartB HZX.out (by decide) (by subst e; exact hk))).mono HX1.out.size, HPS.out⟩⟩

end Go.Proofs.YtkcgbdoplhgbmaaDoor
