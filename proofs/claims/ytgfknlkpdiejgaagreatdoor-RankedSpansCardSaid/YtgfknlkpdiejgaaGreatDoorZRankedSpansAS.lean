/- engine.repeat, and engine.lay at a repeat: round by round, each as long as it may be. Conditions: as Lay's. engine.lay for every small right tree. Conditions: as Lay's. ranked.asked as a contract: the errors of a call, else an engine with its spans all nowhere. Condition: the tree, the scene and the places lie in memory; the error values lie where they lie. engine.told as a contract: the spans of a piece that is taken. Conditions: as Lay's; there is at least one span. -/
import Derived.Test.YtgfknlkpdiejgaaGreatDoorZRankedSpansAQ
import Derived.Test.YtgfknlkpdiejgaaGreatDoorZRankedSpansAG
import Derived.Test.YtgfknlkpdiejgaaGreatDoorZRankedSpansAR
import Derived.Test.YtgfknlkpdiejgaaGreatDoorZRankedSpansAP
namespace Go.Proofs.YtgfknlkpdiejgaaGreatDoor
open Go Go.RowKit

theorem last_cut2 {n nw : Nat} {R S : Rl} (hS : Mon n S) {ak b least : Nat} (hb : b ≤ n) (hnw : n / 64 < nw) (h : ∃ c : Int, (least : Int) ≤ c ∧ R ak c ∧ S c b) :
    lastV (img R (oneP ak)) (img (dirR true S) (oneP b)) nw least = ((cutK R S least ak b : Nat) : Int) := by
  obtain ⟨c1, c2, c3, c4, c5⟩ := cutK_spec (R := R) (S := S) hS (least := least) (a := ak) (b := b) h
  generalize cutK R S least ak b = k at *
  have hq : ∀ j : Nat, andP (img R (oneP ak)) (img (dirR true S) (oneP b)) j = true ↔ R ak j ∧ S j b := fun j => by
    unfold andP
    rw [Bool.and_eq_true, img_one, img_one]
    exact Iff.rfl
  have hk : k < 64 * nw := by
    have : k / 64 ≤ n / 64 := Nat.div_le_div_right (by omega)
    omega
  have hg := grP_at ((hq k).2 ⟨c2, c3⟩) hk (fun i h3 h4 => by
    rw [Bool.eq_false_iff]
    intro h5
    obtain ⟨h6, h7⟩ := (hq i).1 h5
    have := c5 i (by omega) h6 h7
    omega)
  unfold lastV
  rw [hg, if_neg (by omega)]
/-- A repeat's rounds, walked. -/
noncomputable def wRep (s0 : Nd) (ps : List Ps) (l : List (Int × Int)) : List (Int × Int) := walkR ps (List.replicate ps.length s0) l
theorem wRep_cons (s0 : Nd) (p : Ps) (ps : List Ps) (l : List (Int × Int)) : wRep s0 (p :: ps) l = wRep s0 ps (walkN p s0 l) := by
  unfold wRep
  rw [List.length_cons, List.replicate_succ, walkR]
theorem wRep_nil (s0 : Nd) (l : List (Int × Int)) : wRep s0 [] l = l := by
  unfold wRep
  rw [List.length_nil, List.replicate_zero, walkR]
theorem walk_rep {L : Hd → Int → Int → Bool} {h : Hd} {s0 : Nd} {a b : Nat} (hk : h.kind = 8) (l : List (Int × Int)) : walkN (bestN L (.mk h [s0]) a b) (.mk h [s0]) l = wRep s0 (repR (fun x y => bestA L [s0] x y) (tkN L s0) h.bare h.min h.max a b) l := by
  have e : (fun x y => tkA L [s0] x y) = tkN L s0 := by funext x y; exact propext (tkA_one L s0 x y)
  rw [bestN, walkN, if_neg (show ¬ (h.kind = 6 ∨ h.kind = 7) by omega), if_neg (show ¬ h.kind = 5 by omega), if_pos hk, if_neg (show ¬ h.kind = 7 by omega), e]
  unfold ndsOf
  rw [if_neg (by omega), if_pos hk]
  rfl
theorem rp_none {R : Rl} {n : Nat} (hR : Mon n R) {mn mx : Int} {a b : Nat} (h : rpR R mn mx a b) : a ≤ b := by
  have := (hR.rp mn mx a b h).1
  omega
theorem rp_zero {R : Rl} {mn a b : Nat} {mx : Int} (h0 : mx = 0) (h : rpR R mn mx a b) : a = b := by
  obtain ⟨K, h1, h2, h3⟩ := h
  have : K = 0 := by omega
  subst this
  have h4 : (a : Int) = b := h3
  omega
theorem rp_dir {R : Rl} {mn mx : Int} : rpR (dirR true R) mn mx = dirR true (rpR R mn mx) := by
  funext a b
  exact propext (rpR_flip R mn mx a b)

section
variable {W : World} {x : Value} {s : ByteArray} {m : List UInt8} {nw ge g c B : Nat}
set_option maxRecDepth 100000 in
set_option maxHeartbeats 16000000 in
theorem repeat_any (h : Hd) (s0 : Nd) (hk : h.kind = 8) (IH : LayOf W x s m nw ge g c B s0) (hge : ge ≠ g) (hg : W.heap.size ≤ g) (hS : IsScene W x s m) (hT : Tab W) (hnw : s.size / 64 < nw) (hnn : nw ≤ 1000000) (hss : s.size ≤ 1000000) (hm : m.length ≤ 10000000)
    (svn : Value) (w : World) (l : List (Int × Int)) (a b tg tk : Nat) (hN : NdCap W (.mk h [s0]) svn) (hA : NdAt w tg tk h svn) (_htg : tg ≠ g) (hf : formB (.mk h [s0]) = true) (hsm : smallN (.mk h [s0])) (hx : Ext W w) (hE : EnSp w ge x nw g l.length c) (hO : OwnSp w B (.slice (some ⟨g, 0, none⟩) l.length c) l) (ht : tkN (lfM s m) (.mk h [s0]) a b) (hb : b ≤ s.size) :
    Calls Tryz.prog 74 #[.pointer (some ⟨ge, 0, none⟩), .pointer (some ⟨tg, tk, none⟩), .int .i64 a, .int .i64 b] w fun r w' => r = .returned (.tuple #[]) ∧ OwnSp w' B (.slice (some ⟨g, 0, none⟩) l.length c) (wRep s0 (repR (fun x y => bestA (lfM s m) [s0] x y) (tkN (lfM s m) s0) h.bare h.min h.max a b) l) ∧ Keeps (· = g) w w' := by
  have hcase := form_cases hf
  have hf0 : formB s0 = true := form_sub hf s0 (by simp)
  have hsm0 : smallN s0 := smallL_mem hsm.2 s0 (by simp)
  have htR := (tk_rep h s0 hk a b).1 ht
  have hmx := form_rep hf hk
  have hab := rp_none (tkN_mon (lfM_ok s m) s0) htR
  have hmn : ∃ mn : Nat, h.min = mn ∧ mn ≤ 255 := ⟨h.min.toNat, by omega, by omega⟩
  have hmb : -1 ≤ h.max ∧ h.max ≤ 255 := by omega
  have n4 : w.cell? ⟨tg, tk + 7, none⟩ = some (.int .i64 h.min) := hA 7 (by decide)
  have n5 : w.cell? ⟨tg, tk + 5, none⟩ = some svn := hA 5 (by decide)
  have n8 : w.cell? ⟨tg, tk + 8, none⟩ = some (.int .i64 h.max) := hA 8 (by decide)
  have n9 : w.cell? ⟨tg, tk + 9, none⟩ = some (.bool h.bare) := hA 9 (by decide)
  obtain ⟨SA, sc, rfl, _, hNs⟩ := hN
  obtain ⟨g0, o0, sv0, rfl, hat, hok⟩ := hNs.get 0 (by simp)
  simp only [List.getElem_cons_zero, Nat.zero_mul, Nat.add_zero, List.length_singleton] at hat hok n5
  have hatW : NdAt W g0 o0 s0.h sv0 := fun i hi => hat i hi
  have hg0 : g0 < W.heap.size := World.block_lt_of_cell? W ⟨g0, o0 + 0, none⟩ (hatW 0 (by decide))
  obtain ⟨mn, hmn1, hmn2⟩ := hmn
  have HX := Lib.hid hx
  have HE := Lib.hid hE
  have HO := Lib.hid hO
  have HIH := Lib.hid IH
  have HS := Lib.hid hS
  have HTB := Lib.hid hT
  have HOK := Lib.hid hok
  have HAT := Lib.hid hatW
  have HF0 := Lib.hid hf0
  have HSM := Lib.hid hsm0
  have hdivb : b / 64 < nw := by have : b / 64 ≤ s.size / 64 := Nat.div_le_div_right hb; omega
  generalize h.bare = ba at *
  generalize h.max = mx at *
  rw [hmn1] at htR n4 hmx ⊢
  have HTR := Lib.hid htR
  obtain ⟨FIN, hFIN⟩ : ∃ F, F = wRep s0 (repR (fun x y => bestA (lfM s m) [s0] x y) (tkN (lfM s m) s0) ba mn mx a b) l := ⟨_, rfl⟩
  rw [← hFIN]
  have HFIN := Lib.hid hFIN
  clear hFIN hA hNs hat hok hatW hx hE hO IH hS hT hf hf0 hsm hsm0 ht hcase htR hk hmn1
  go_enter Tryz.func74, Tryz.ntmps74
  by_cases hm0 : mx = 0
  · subst hm0
    go_wp2
    refine bodyPost_ret (v := .tuple #[]) ?_ rfl ⟨rfl, by rw [HFIN.out]; unfold repR; rw [if_pos rfl, wRep_nil]; exact HO.out, Keeps.refl _ _⟩
    simp [results]
  go_upto_region 2 with fail
  go_cut [32] (fun v wx => v = .bool (decide (a = b ∧ mn = 0)) ∧ w = wx)
  case first =>
    by_cases h1 : a = b
    · subst h1
      by_cases h2 : mn = 0
      · subst h2
        go_wp2
        go_meet
        case rel => exact ⟨by simp, rfl⟩
      · have h3 : ¬ (mn : Int) = 0 := by omega
        go_wp2
        go_meet
        case rel => exact ⟨by simp [h2], rfl⟩
    · have h3 : ¬ (a : Int) = (b : Int) := by omega
      go_wp2
      go_meet
      case rel => exact ⟨by simp [h1], rfl⟩
  obtain ⟨rfl, rfl⟩ := hcut
  go_step
  by_cases hc : a = b ∧ mn = 0
  · rw [decide_eq_true hc]
    obtain ⟨h1, h2⟩ := hc
    subst h1 h2
    have hae : EnAt w (.pointer (some ⟨ge, 0, none⟩)) x nw (.slice (some ⟨g, 0, none⟩) l.length c) := ⟨ge, rfl, HE.out⟩
    have HAE := Lib.hid hae
    clear hae
    obtain ⟨qb, hqb⟩ : ∃ qb : Bool, (qb = true ↔ ba = false ∧ tkN (lfM s m) s0 a a) := by
      by_cases h : ba = false ∧ tkN (lfM s m) s0 a a
      · exact ⟨true, by simp [h]⟩
      · exact ⟨false, by simp [h]⟩
    have HQB := Lib.hid hqb
    clear hqb
    go_upto_region 3 with fail
    go_cut [47] (fun v wx => v = .bool qb ∧ Ext w wx)
    case first =>
      cases ba with
      | true =>
        go_wp2
        go_meet
        case rel =>
          refine ⟨?_, Ext.refl _⟩
          cases qb with
          | false => rfl
          | true => exact absurd (HQB.out.1 rfl).1 (by decide)
      | false =>
        have HON := Lib.hid (only_any (.pointer (some ⟨ge, 0, none⟩)) x (.slice (some ⟨g, 0, none⟩) l.length c) nw a w HAE.out (by omega) hdivb)
        have HLD := Lib.hid (fun W' v (hW : Ext w W') (hr : RdP W' v nw (oneP a)) => lead_any (x := x) (m := m) hnw (by omega) hss hm s0 HSM.out (.pointer (some ⟨ge, 0, none⟩)) (.slice (some ⟨g, 0, none⟩) l.length c) sv0 v g0 o0 false (oneP a) W' HF0.out (HAE.out.ext hW) (HS.out.ext (HX.out.trans hW)) (HAT.out.ext (HX.out.trans hW)) (HOK.out.ok.ext (HX.out.trans hW)) (HTB.out.ext (HX.out.trans hW)) hr (PlN.one (by omega)))
        have HHS := Lib.hid (fun W' v (hr : RdP W' v nw (img (dirR false (tkN (lfM s m) s0)) (oneP a))) => hasP_any v nw _ a W' hr hdivb (by omega))
        have HQ : Hid (img (dirR false (tkN (lfM s m) s0)) (oneP a) a = true ↔ tkN (lfM s m) s0 a a) := Lib.hid (by rw [img_one]; exact Iff.rfl)
        generalize img (dirR false (tkN (lfM s m) s0)) (oneP a) = qk at *
        go_wp2_with (first | (go_at_call 26; refine HON.out.mono ?_; rintro e w6 ⟨v6, rfl, ho6, hx6⟩; have HR6 := Lib.hid (RdP.of_own ho6); have HX6 := Lib.hid hx6; obtain ⟨A6, c6, hv6, _⟩ := HR6.out.shape; subst hv6; clear ho6 hx6) | (go_at_call 25; refine (HLD.out _ _ HX6.out HR6.out).mono ?_; rintro e w7 ⟨v7, rfl, hx7, hr7, _⟩; have HR7 := Lib.hid hr7; have HX7 := Lib.hid hx7; obtain ⟨A7, c7, hv7, _⟩ := HR7.out.shape; subst hv7; clear hr7 hx7) | (go_at_call 32; refine (HHS.out _ _ HR7.out).mono ?_; rintro e w8 ⟨rfl, rfl⟩))
        go_meet
        case rel =>
          refine ⟨?_, HX6.out.trans HX7.out⟩
          have e : qk a = qb := by
            rw [Bool.eq_iff_iff, HQ.out, HQB.out]
            simp
          rw [e]
    obtain ⟨rfl, hx2⟩ := hcut
    obtain ⟨w2, hw2⟩ : ∃ w, w = wc := ⟨_, rfl⟩
    subst hw2
    have HX2 := Lib.hid hx2
    clear hx2
    go_step
    by_cases hq : ba = false ∧ tkN (lfM s m) s0 a a
    · rw [HQB.out.2 hq]
      have HC := Lib.hid (HIH.out sv0 w2 l a a g0 o0 HOK.out (HAT.out.ext (HX.out.trans HX2.out)) (by omega) HF0.out HSM.out (HX.out.trans HX2.out) (HE.out.ext HX2.out) (OwnR.ext HO.out HX2.out) hq.2 hb)
      have HF : Hid (FIN = walkN (bestN (lfM s m) s0 a a) s0 l) := Lib.hid (by rw [HFIN.out]; unfold repR; rw [if_neg hm0, if_pos ⟨rfl, rfl⟩, if_pos hq, wRep_cons, wRep_nil]; show walkN (bestA (lfM s m) [s0] a a) s0 l = _; rw [bestA_one s0 a a hq.2])
      rw [← HF.out] at HC
      clear hq n4 n5 n8 n9
      go_wp2_with (go_at_call 55; refine HC.out.mono ?_; rintro e w4 ⟨rfl, hO4, hk4⟩)
      refine bodyPost_ret (v := .tuple #[]) ?_ rfl ⟨rfl, hO4, (Keeps.of_ext HX2.out).trans hk4 (fun _ _ h => h)⟩
      simp [results]
    · have e : qb = false := by rw [Bool.eq_false_iff]; exact fun h => hq (HQB.out.1 h)
      rw [e]
      clear e
      have HF : Hid (FIN = l) := Lib.hid (by rw [HFIN.out]; unfold repR; rw [if_neg hm0, if_pos ⟨rfl, rfl⟩, if_neg hq, wRep_nil])
      clear hq n4 n5 n8 n9
      go_wp2
      refine bodyPost_ret (v := .tuple #[]) ?_ rfl ⟨rfl, by rw [HF.out]; exact OwnR.ext HO.out HX2.out, Keeps.of_ext HX2.out⟩
      simp [results]
  rw [decide_eq_false hc]
  have hab0 : a < b ∨ 0 < mn := by omega
  have HW0 : Hid (wRep s0 (rndsR (fun x y => bestA (lfM s m) [s0] x y) (tkN (lfM s m) s0) (mn + (b - a)) mn mx a b) l = FIN) := Lib.hid (by rw [HFIN.out]; unfold repR; rw [if_neg hm0, if_neg (by omega), Int.toNat_natCast])
  clear hc
  go_upto_region 5 with fail
  go_region
  go_upto_region 6 with fail
  go_loopw [2, 9, 10] (fun fv lv mv wr => ∃ (ak mk gg : Nat) (xk : Int) (lk : List (Int × Int)), fv = .int .i64 ak ∧ lv = .int .i64 mk ∧ mv = .int .i64 xk ∧ ak ≤ b ∧ mk ≤ 1000 ∧ (xk = -1 ∨ (mk : Int) ≤ xk) ∧ xk ≤ 1000 ∧ mk + (b - ak) ≤ gg ∧ lk.length = l.length ∧ OwnSp wr B (.slice (some ⟨g, 0, none⟩) l.length c) lk ∧ Keeps (· = g) w wr ∧ Hid (rpR (tkN (lfM s m) s0) mk xk ak b) ∧ Hid (wRep s0 (rndsR (fun x y => bestA (lfM s m) [s0] x y) (tkN (lfM s m) s0) gg mk xk ak b) lk = FIN)) (fun fv lv _ _ => (intOf lv).toNat + (b - (intOf fv).toNat))
  case atStart => exact ⟨a, mn, mn + (b - a), mx, l, rfl, rfl, rfl, hab, by omega, hmx, by omega, Nat.le_refl _, rfl, OwnR.ext HO.out (Ext.refl _).drew, Keeps.of_ext (Ext.refl _).drew, HTR, HW0⟩
  case round =>
    obtain ⟨ak, mk, gg, xk, lk, rfl, rfl, rfl, hakb, hmk, hxk, hxk2, hgg, hlk, ho, hK, HTK, HWR⟩ := hrel
    obtain ⟨w1, hw1⟩ : ∃ w, w = wr := ⟨_, rfl⟩
    subst hw1
    have HK := Lib.hid hK
    have HO1 := Lib.hid ho
    have HLK := Lib.hid hlk
    have HXW : Hid (Ext W w1) := Lib.hid (HX.out.keepG hK hg)
    have hE1 : EnSp w1 ge x nw g l.length c := HE.out.keeps hK hge
    have HE1 := Lib.hid hE1
    have hae : EnAt w1 (.pointer (some ⟨ge, 0, none⟩)) x nw (.slice (some ⟨g, 0, none⟩) l.length c) := ⟨ge, rfl, hE1⟩
    have HAE := Lib.hid hae
    have hdiv : ak / 64 < nw := by have : ak / 64 ≤ s.size / 64 := Nat.div_le_div_right (by omega); omega
    clear hK ho hlk hE1 hae n4 n5 n8 n9
    by_cases hlt : ak < b ∨ 0 < mk
    · rcases (show (ak < b) ∨ (¬ ak < b ∧ 0 < mk) by omega) with h1 | ⟨h1, h2⟩
      · have q1 : (ak : Int) < (b : Int) := by omega
        go_upto_region 7 with fail
        clear q1 h1
        go_upto_region 8 with fail
        go_cut [70] (fun v wx => v = .bool (decide (mk = 0)) ∧ w1 = wx)
        case first =>
          by_cases h1 : mk = 0
          · subst h1
            go_wp2
            go_meet
            case rel => exact ⟨by simp, rfl⟩
          · have q1 : ¬ (mk : Int) = 0 := by omega
            go_wp2
            go_meet
            case rel => exact ⟨by simp [h1], rfl⟩
        obtain ⟨rfl, rfl⟩ := hcut
        go_step
        obtain ⟨fs, hfs⟩ : ∃ fs : Nat, fs = if mk = 0 then ak + 1 else ak := ⟨_, rfl⟩
        have HFS := Lib.hid hfs
        clear hfs
        go_cut [11] (fun v wx => v = .int .i64 fs ∧ w1 = wx)
        case first =>
          by_cases h1 : mk = 0
          · rw [decide_eq_true h1]
            go_wp2
            go_meet
            case rel => exact ⟨by rw [HFS.out, if_pos h1]; go_num, rfl⟩
          · rw [decide_eq_false h1]
            go_wp2
            go_meet
            case rel => exact ⟨by rw [HFS.out, if_neg h1], rfl⟩
        obtain ⟨rfl, rfl⟩ := hcut
        have hmq : ∃ mq : Nat, mq = mk - 1 := ⟨_, rfl⟩
        obtain ⟨mq, hmq⟩ := hmq
        go_upto_region 10 with fail
        go_cut [9] (fun v wx => v = .int .i64 mq ∧ w1 = wx)
        case first =>
          by_cases h1 : mk = 0
          · have e : mq = 0 := by omega
            subst h1 e
            clear hmq
            go_wp2
            go_meet
            case rel => exact ⟨by go_num, rfl⟩
          · obtain ⟨mj, rfl⟩ : ∃ mj, mk = mj + 1 := ⟨mk - 1, by omega⟩
            have e : mq = mj := by omega
            subst e
            have q1 : ((mq + 1 : Nat) : Int) - 1 = (mq : Int) := by omega
            clear hmq
            go_wp2
            go_meet
            case rel => exact ⟨by go_num, rfl⟩
        obtain ⟨rfl, rfl⟩ := hcut
        obtain ⟨xq, hxq⟩ : ∃ xq : Int, xq = if 0 < xk then xk - 1 else xk := ⟨_, rfl⟩
        have HXQ := Lib.hid hxq
        have HMQ := Lib.hid hmq
        clear hxq hmq
        go_upto_region 11 with fail
        go_cut [77] (fun v wx => v = .bool (decide (0 < xk)) ∧ w1 = wx)
        case first =>
          go_wp2
          go_meet
          case rel => exact ⟨rfl, rfl⟩
        obtain ⟨rfl, rfl⟩ := hcut
        go_step
        go_cut [10] (fun v wx => v = .int .i64 xq ∧ w1 = wx)
        case first =>
          by_cases h1 : 0 < xk
          · rw [decide_eq_true h1]
            go_wp2
            go_meet
            case rel => exact ⟨by rw [HXQ.out, if_pos h1], rfl⟩
          · rw [decide_eq_false h1]
            go_wp2
            go_meet
            case rel => exact ⟨by rw [HXQ.out, if_neg (by omega)], rfl⟩
        obtain ⟨rfl, rfl⟩ := hcut
        obtain ⟨gg, rfl⟩ : ∃ gq, gg = gq + 1 := ⟨gg - 1, by omega⟩
        have hlt2 : ak < b ∨ (0 : Int) < (mk : Int) := by omega
        have HFM : Hid ((mk = 0 ∧ fs = ak + 1 ∧ mq = 0) ∨ (0 < mk ∧ fs = ak ∧ mq + 1 = mk)) := Lib.hid (by
          have e1 := HMQ.out
          have e2 := HFS.out
          split at e2 <;> omega)
        have HXM : Hid ((xq = -1 ∨ (mq : Int) ≤ xq) ∧ xq ≤ 1000) := Lib.hid (by
          have e1 := HMQ.out
          have e2 := HXQ.out
          split at e2 <;> omega)
        have hmq2 : mq ≤ 1000 := by have := HMQ.out; omega
        have hfs2 : fs ≤ b + 1 := by have := HFM.out; omega
        have eM : max ((mk : Int) - 1) 0 = (mq : Int) := by have := HMQ.out; omega
        have eF : (if (mk : Int) = 0 then ak + 1 else ak) = fs := by rw [HFS.out]; split <;> split <;> omega
        have hsp := rp_split (tkN_mon (lfM_ok s m) s0) (Int.natCast_nonneg mk) (by omega) HTK.out hlt2
        have hwr := HWR.out
        rw [rndsR, if_pos hlt2, wRep_cons] at hwr
        rw [eM, eF, ← HXQ.out] at hsp hwr
        have HWR2 := Lib.hid hwr
        have HCS := Lib.hid (cutK_spec (R := tkN (lfM s m) s0) (S := rpR (tkN (lfM s m) s0) mq xq) ((tkN_mon (lfM_ok s m) s0).rp mq xq) (least := fs) (a := ak) (b := b) hsp)
        have HLC := Lib.hid (last_cut2 (nw := nw) (R := tkN (lfM s m) s0) (S := rpR (tkN (lfM s m) s0) mq xq) ((tkN_mon (lfM_ok s m) s0).rp mq xq) (ak := ak) (b := b) (least := fs) hb hnw hsp)
        have HON := Lib.hid (fun W' (hW : Ext w1 W') => only_any (.pointer (some ⟨ge, 0, none⟩)) x (.slice (some ⟨g, 0, none⟩) l.length c) nw ak W' (HAE.out.ext hW) (by omega) hdiv)
        have HOB := Lib.hid (fun W' (hW : Ext w1 W') => only_any (.pointer (some ⟨ge, 0, none⟩)) x (.slice (some ⟨g, 0, none⟩) l.length c) nw b W' (HAE.out.ext hW) (by omega) hdivb)
        have HLD := Lib.hid (fun W' v (hW : Ext w1 W') (hr : RdP W' v nw (oneP ak)) => lead_any (x := x) (m := m) hnw (by omega) hss hm s0 HSM.out (.pointer (some ⟨ge, 0, none⟩)) (.slice (some ⟨g, 0, none⟩) l.length c) sv0 v g0 o0 false (oneP ak) W' HF0.out (HAE.out.ext hW) (HS.out.ext (HXW.out.trans hW)) (HAT.out.ext (HXW.out.trans hW)) (HOK.out.ok.ext (HXW.out.trans hW)) (HTB.out.ext (HXW.out.trans hW)) hr (PlN.one (by omega)))
        have HPT := Lib.hid (fun W' v (hW : Ext w1 W') (hr : RdP W' v nw (oneP b)) => rounds_lead (x := x) (m := m) s0 (lead_any (x := x) (m := m) hnw (by omega) hss hm s0 HSM.out) (lfM_ok s m) hnw (by omega) hss (.pointer (some ⟨ge, 0, none⟩)) (.slice (some ⟨g, 0, none⟩) l.length c) sv0 v g0 o0 mq xq true (oneP b) W' HF0.out (HAE.out.ext hW) (HS.out.ext (HXW.out.trans hW)) (HAT.out.ext (HXW.out.trans hW)) (HOK.out.ok.ext (HXW.out.trans hW)) (HTB.out.ext (HXW.out.trans hW)) hr (PlN.one hb) hmq2 HXM.out.1 HXM.out.2)
        have hlast := fun W' v u (h1 : RdP W' v nw (img (dirR false (tkN (lfM s m) s0)) (oneP ak))) (h2 : RdP W' u nw (img (dirR true (rpR (tkN (lfM s m) s0) mq xq)) (oneP b))) => last_any v u nw _ _ (fs : Int) W' h1 h2 hnn (by omega)
        have HLA := Lib.hid hlast
        have e1 : dirR false (tkN (lfM s m) s0) = tkN (lfM s m) s0 := rfl
        simp only [e1] at HLA HLD
        rw [HLC.out] at HLA
        rw [rp_dir] at HPT
        generalize img (tkN (lfM s m) s0) (oneP ak) = qk at *
        generalize img (dirR true (rpR (tkN (lfM s m) s0) mq xq)) (oneP b) = qr at *
        clear hlast hsp hwr e1 HLC eM eF hlt2 hlt
        go_upto_region 13 with fail
        go_cut [12] (fun v wx => v = .int .i64 (cutK (tkN (lfM s m) s0) (rpR (tkN (lfM s m) s0) mq xq) fs ak b : Nat) ∧ Ext w1 wx)
        case first =>
          go_wp2_with (first | (go_at_call 26; refine (HOB.out _ (HX6.out.trans HX7.out)).mono ?_; rintro e w8 ⟨v8, rfl, ho8, hx8⟩; have hr8 := RdP.of_own ho8; clear ho8; have HR8 := Lib.hid hr8; have HX8 := Lib.hid hx8; obtain ⟨A8, c8, hv8, _⟩ := HR8.out.shape; subst hv8; clear hr8 hx8) | (go_at_call 26; refine (HON.out _ (Ext.refl _)).mono ?_; rintro e w6 ⟨v6, rfl, ho6, hx6⟩; have hr6 := RdP.of_own ho6; clear ho6; have HR6 := Lib.hid hr6; have HX6 := Lib.hid hx6; obtain ⟨A6, c6, hv6, _⟩ := HR6.out.shape; subst hv6; clear hr6 hx6) | (go_at_call 25; refine (HLD.out _ _ HX6.out HR6.out).mono ?_; rintro e w7 ⟨v7, rfl, hx7, hr7, _⟩; have HR7 := Lib.hid hr7; have HX7 := Lib.hid hx7; obtain ⟨A7, c7, hv7, _⟩ := HR7.out.shape; subst hv7; clear hr7 hx7) | (go_at_call 52; refine (HPT.out _ _ ((HX6.out.trans HX7.out).trans HX8.out) HR8.out).mono ?_; rintro e w9 ⟨v9, rfl, hx9, hr9, _⟩; have HR9 := Lib.hid hr9; have HX9 := Lib.hid hx9; obtain ⟨A9, c9, hv9, _⟩ := HR9.out.shape; subst hv9; clear hr9 hx9) | (go_at_call 27; refine (HLA.out _ _ _ (HR7.out.ext (HX8.out.trans HX9.out)) HR9.out).mono ?_; rintro e w10 ⟨rfl, hx10⟩; have HX10 := Lib.hid hx10; clear hx10))
          go_meet
          case rel => exact ⟨rfl, (((HX6.out.trans HX7.out).trans HX8.out).trans HX9.out).trans HX10.out⟩
        obtain ⟨rfl, hx2⟩ := hcut
        obtain ⟨w2, hw2⟩ : ∃ w, w = wc := ⟨_, rfl⟩
        subst hw2
        obtain ⟨c1, c2, c3, c4, _⟩ := HCS.out
        have c3 := Lib.hid c3
        clear HCS HLA HPT HLD HON HOB
        generalize cutK (tkN (lfM s m) s0) (rpR (tkN (lfM s m) s0) mq xq) fs ak b = kk at *
        have hwr2 : wRep s0 (rndsR (fun x y => bestA (lfM s m) [s0] x y) (tkN (lfM s m) s0) gg mq xq kk b) (walkN (bestA (lfM s m) [s0] ak kk) s0 lk) = FIN := HWR2.out
        rw [bestA_one s0 ak kk c2] at hwr2
        have HWR3 := Lib.hid hwr2
        have hxW2 : Ext W w2 := HXW.out.trans hx2
        have HC := Lib.hid (HIH.out sv0 w2 lk ak kk g0 o0 HOK.out (HAT.out.ext hxW2) (by omega) HF0.out HSM.out hxW2 (by rw [HLK.out]; exact HE1.out.ext hx2) (by rw [HLK.out]; exact OwnR.ext HO1.out hx2) c2 (by omega))
        rw [HLK.out] at HC
        have HLN : Hid ((walkN (bestN (lfM s m) s0 ak kk) s0 lk).length = l.length) := Lib.hid (by rw [walkN_len]; exact HLK.out)
        have HKK := Lib.hid (HK.out.trans (Keeps.of_ext hx2) (fun _ _ h => h))
        clear c2 hx2 hxW2 hwr2 HWR2
        generalize walkN (bestN (lfM s m) s0 ak kk) s0 lk = lk2 at *
        go_wp2_with (go_at_call 55; refine HC.out.mono ?_; rintro e w3 ⟨rfl, hO3, hk3⟩)
        go_roundw
        case rel => exact ⟨kk, mq, gg, xq, lk2, rfl, rfl, rfl, c4, hmq2, HXM.out.1, HXM.out.2, (by have := HFM.out; omega), HLN.out, hO3, HKK.out.trans hk3 (fun _ _ h => h), c3, HWR3⟩
        case measure =>
          have := HFM.out
          simp [intOf]
          omega
      · have q1 : ¬ (ak : Int) < (b : Int) := by omega
        have q2 : (0 : Int) < (mk : Int) := by omega
        go_upto_region 7 with fail
        clear q1 q2 h1 h2
        go_upto_region 8 with fail
        go_cut [70] (fun v wx => v = .bool (decide (mk = 0)) ∧ w1 = wx)
        case first =>
          by_cases h1 : mk = 0
          · subst h1
            go_wp2
            go_meet
            case rel => exact ⟨by simp, rfl⟩
          · have q1 : ¬ (mk : Int) = 0 := by omega
            go_wp2
            go_meet
            case rel => exact ⟨by simp [h1], rfl⟩
        obtain ⟨rfl, rfl⟩ := hcut
        go_step
        obtain ⟨fs, hfs⟩ : ∃ fs : Nat, fs = if mk = 0 then ak + 1 else ak := ⟨_, rfl⟩
        have HFS := Lib.hid hfs
        clear hfs
        go_cut [11] (fun v wx => v = .int .i64 fs ∧ w1 = wx)
        case first =>
          by_cases h1 : mk = 0
          · rw [decide_eq_true h1]
            go_wp2
            go_meet
            case rel => exact ⟨by rw [HFS.out, if_pos h1]; go_num, rfl⟩
          · rw [decide_eq_false h1]
            go_wp2
            go_meet
            case rel => exact ⟨by rw [HFS.out, if_neg h1], rfl⟩
        obtain ⟨rfl, rfl⟩ := hcut
        have hmq : ∃ mq : Nat, mq = mk - 1 := ⟨_, rfl⟩
        obtain ⟨mq, hmq⟩ := hmq
        go_upto_region 10 with fail
        go_cut [9] (fun v wx => v = .int .i64 mq ∧ w1 = wx)
        case first =>
          by_cases h1 : mk = 0
          · have e : mq = 0 := by omega
            subst h1 e
            clear hmq
            go_wp2
            go_meet
            case rel => exact ⟨by go_num, rfl⟩
          · obtain ⟨mj, rfl⟩ : ∃ mj, mk = mj + 1 := ⟨mk - 1, by omega⟩
            have e : mq = mj := by omega
            subst e
            have q1 : ((mq + 1 : Nat) : Int) - 1 = (mq : Int) := by omega
            clear hmq
            go_wp2
            go_meet
            case rel => exact ⟨by go_num, rfl⟩
        obtain ⟨rfl, rfl⟩ := hcut
        obtain ⟨xq, hxq⟩ : ∃ xq : Int, xq = if 0 < xk then xk - 1 else xk := ⟨_, rfl⟩
        have HXQ := Lib.hid hxq
        have HMQ := Lib.hid hmq
        clear hxq hmq
        go_upto_region 11 with fail
        go_cut [77] (fun v wx => v = .bool (decide (0 < xk)) ∧ w1 = wx)
        case first =>
          go_wp2
          go_meet
          case rel => exact ⟨rfl, rfl⟩
        obtain ⟨rfl, rfl⟩ := hcut
        go_step
        go_cut [10] (fun v wx => v = .int .i64 xq ∧ w1 = wx)
        case first =>
          by_cases h1 : 0 < xk
          · rw [decide_eq_true h1]
            go_wp2
            go_meet
            case rel => exact ⟨by rw [HXQ.out, if_pos h1], rfl⟩
          · rw [decide_eq_false h1]
            go_wp2
            go_meet
            case rel => exact ⟨by rw [HXQ.out, if_neg (by omega)], rfl⟩
        obtain ⟨rfl, rfl⟩ := hcut
        obtain ⟨gg, rfl⟩ : ∃ gq, gg = gq + 1 := ⟨gg - 1, by omega⟩
        have hlt2 : ak < b ∨ (0 : Int) < (mk : Int) := by omega
        have HFM : Hid ((mk = 0 ∧ fs = ak + 1 ∧ mq = 0) ∨ (0 < mk ∧ fs = ak ∧ mq + 1 = mk)) := Lib.hid (by
          have e1 := HMQ.out
          have e2 := HFS.out
          split at e2 <;> omega)
        have HXM : Hid ((xq = -1 ∨ (mq : Int) ≤ xq) ∧ xq ≤ 1000) := Lib.hid (by
          have e1 := HMQ.out
          have e2 := HXQ.out
          split at e2 <;> omega)
        have hmq2 : mq ≤ 1000 := by have := HMQ.out; omega
        have hfs2 : fs ≤ b + 1 := by have := HFM.out; omega
        have eM : max ((mk : Int) - 1) 0 = (mq : Int) := by have := HMQ.out; omega
        have eF : (if (mk : Int) = 0 then ak + 1 else ak) = fs := by rw [HFS.out]; split <;> split <;> omega
        have hsp := rp_split (tkN_mon (lfM_ok s m) s0) (Int.natCast_nonneg mk) (by omega) HTK.out hlt2
        have hwr := HWR.out
        rw [rndsR, if_pos hlt2, wRep_cons] at hwr
        rw [eM, eF, ← HXQ.out] at hsp hwr
        have HWR2 := Lib.hid hwr
        have HCS := Lib.hid (cutK_spec (R := tkN (lfM s m) s0) (S := rpR (tkN (lfM s m) s0) mq xq) ((tkN_mon (lfM_ok s m) s0).rp mq xq) (least := fs) (a := ak) (b := b) hsp)
        have HLC := Lib.hid (last_cut2 (nw := nw) (R := tkN (lfM s m) s0) (S := rpR (tkN (lfM s m) s0) mq xq) ((tkN_mon (lfM_ok s m) s0).rp mq xq) (ak := ak) (b := b) (least := fs) hb hnw hsp)
        have HON := Lib.hid (fun W' (hW : Ext w1 W') => only_any (.pointer (some ⟨ge, 0, none⟩)) x (.slice (some ⟨g, 0, none⟩) l.length c) nw ak W' (HAE.out.ext hW) (by omega) hdiv)
        have HOB := Lib.hid (fun W' (hW : Ext w1 W') => only_any (.pointer (some ⟨ge, 0, none⟩)) x (.slice (some ⟨g, 0, none⟩) l.length c) nw b W' (HAE.out.ext hW) (by omega) hdivb)
        have HLD := Lib.hid (fun W' v (hW : Ext w1 W') (hr : RdP W' v nw (oneP ak)) => lead_any (x := x) (m := m) hnw (by omega) hss hm s0 HSM.out (.pointer (some ⟨ge, 0, none⟩)) (.slice (some ⟨g, 0, none⟩) l.length c) sv0 v g0 o0 false (oneP ak) W' HF0.out (HAE.out.ext hW) (HS.out.ext (HXW.out.trans hW)) (HAT.out.ext (HXW.out.trans hW)) (HOK.out.ok.ext (HXW.out.trans hW)) (HTB.out.ext (HXW.out.trans hW)) hr (PlN.one (by omega)))
        have HPT := Lib.hid (fun W' v (hW : Ext w1 W') (hr : RdP W' v nw (oneP b)) => rounds_lead (x := x) (m := m) s0 (lead_any (x := x) (m := m) hnw (by omega) hss hm s0 HSM.out) (lfM_ok s m) hnw (by omega) hss (.pointer (some ⟨ge, 0, none⟩)) (.slice (some ⟨g, 0, none⟩) l.length c) sv0 v g0 o0 mq xq true (oneP b) W' HF0.out (HAE.out.ext hW) (HS.out.ext (HXW.out.trans hW)) (HAT.out.ext (HXW.out.trans hW)) (HOK.out.ok.ext (HXW.out.trans hW)) (HTB.out.ext (HXW.out.trans hW)) hr (PlN.one hb) hmq2 HXM.out.1 HXM.out.2)
        have hlast := fun W' v u (h1 : RdP W' v nw (img (dirR false (tkN (lfM s m) s0)) (oneP ak))) (h2 : RdP W' u nw (img (dirR true (rpR (tkN (lfM s m) s0) mq xq)) (oneP b))) => last_any v u nw _ _ (fs : Int) W' h1 h2 hnn (by omega)
        have HLA := Lib.hid hlast
        have e1 : dirR false (tkN (lfM s m) s0) = tkN (lfM s m) s0 := rfl
        simp only [e1] at HLA HLD
        rw [HLC.out] at HLA
        rw [rp_dir] at HPT
        generalize img (tkN (lfM s m) s0) (oneP ak) = qk at *
        generalize img (dirR true (rpR (tkN (lfM s m) s0) mq xq)) (oneP b) = qr at *
        clear hlast hsp hwr e1 HLC eM eF hlt2 hlt
        go_upto_region 13 with fail
        go_cut [12] (fun v wx => v = .int .i64 (cutK (tkN (lfM s m) s0) (rpR (tkN (lfM s m) s0) mq xq) fs ak b : Nat) ∧ Ext w1 wx)
        case first =>
          go_wp2_with (first | (go_at_call 26; refine (HOB.out _ (HX6.out.trans HX7.out)).mono ?_; rintro e w8 ⟨v8, rfl, ho8, hx8⟩; have hr8 := RdP.of_own ho8; clear ho8; have HR8 := Lib.hid hr8; have HX8 := Lib.hid hx8; obtain ⟨A8, c8, hv8, _⟩ := HR8.out.shape; subst hv8; clear hr8 hx8) | (go_at_call 26; refine (HON.out _ (Ext.refl _)).mono ?_; rintro e w6 ⟨v6, rfl, ho6, hx6⟩; have hr6 := RdP.of_own ho6; clear ho6; have HR6 := Lib.hid hr6; have HX6 := Lib.hid hx6; obtain ⟨A6, c6, hv6, _⟩ := HR6.out.shape; subst hv6; clear hr6 hx6) | (go_at_call 25; refine (HLD.out _ _ HX6.out HR6.out).mono ?_; rintro e w7 ⟨v7, rfl, hx7, hr7, _⟩; have HR7 := Lib.hid hr7; have HX7 := Lib.hid hx7; obtain ⟨A7, c7, hv7, _⟩ := HR7.out.shape; subst hv7; clear hr7 hx7) | (go_at_call 52; refine (HPT.out _ _ ((HX6.out.trans HX7.out).trans HX8.out) HR8.out).mono ?_; rintro e w9 ⟨v9, rfl, hx9, hr9, _⟩; have HR9 := Lib.hid hr9; have HX9 := Lib.hid hx9; obtain ⟨A9, c9, hv9, _⟩ := HR9.out.shape; subst hv9; clear hr9 hx9) | (go_at_call 27; refine (HLA.out _ _ _ (HR7.out.ext (HX8.out.trans HX9.out)) HR9.out).mono ?_; rintro e w10 ⟨rfl, hx10⟩; have HX10 := Lib.hid hx10; clear hx10))
          go_meet
          case rel => exact ⟨rfl, (((HX6.out.trans HX7.out).trans HX8.out).trans HX9.out).trans HX10.out⟩
        obtain ⟨rfl, hx2⟩ := hcut
        obtain ⟨w2, hw2⟩ : ∃ w, w = wc := ⟨_, rfl⟩
        subst hw2
        obtain ⟨c1, c2, c3, c4, _⟩ := HCS.out
        have c3 := Lib.hid c3
        clear HCS HLA HPT HLD HON HOB
        generalize cutK (tkN (lfM s m) s0) (rpR (tkN (lfM s m) s0) mq xq) fs ak b = kk at *
        have hwr2 : wRep s0 (rndsR (fun x y => bestA (lfM s m) [s0] x y) (tkN (lfM s m) s0) gg mq xq kk b) (walkN (bestA (lfM s m) [s0] ak kk) s0 lk) = FIN := HWR2.out
        rw [bestA_one s0 ak kk c2] at hwr2
        have HWR3 := Lib.hid hwr2
        have hxW2 : Ext W w2 := HXW.out.trans hx2
        have HC := Lib.hid (HIH.out sv0 w2 lk ak kk g0 o0 HOK.out (HAT.out.ext hxW2) (by omega) HF0.out HSM.out hxW2 (by rw [HLK.out]; exact HE1.out.ext hx2) (by rw [HLK.out]; exact OwnR.ext HO1.out hx2) c2 (by omega))
        rw [HLK.out] at HC
        have HLN : Hid ((walkN (bestN (lfM s m) s0 ak kk) s0 lk).length = l.length) := Lib.hid (by rw [walkN_len]; exact HLK.out)
        have HKK := Lib.hid (HK.out.trans (Keeps.of_ext hx2) (fun _ _ h => h))
        clear c2 hx2 hxW2 hwr2 HWR2
        generalize walkN (bestN (lfM s m) s0 ak kk) s0 lk = lk2 at *
        go_wp2_with (go_at_call 55; refine HC.out.mono ?_; rintro e w3 ⟨rfl, hO3, hk3⟩)
        go_roundw
        case rel => exact ⟨kk, mq, gg, xq, lk2, rfl, rfl, rfl, c4, hmq2, HXM.out.1, HXM.out.2, (by have := HFM.out; omega), HLN.out, hO3, HKK.out.trans hk3 (fun _ _ h => h), c3, HWR3⟩
        case measure =>
          have := HFM.out
          simp [intOf]
          omega
    · have q1 : ¬ (ak : Int) < (b : Int) := by omega
      have q2 : ¬ (0 : Int) < (mk : Int) := by omega
      have HF : Hid (lk = FIN) := Lib.hid (by
        rw [← HWR.out]
        cases gg with
        | zero => rw [rndsR, wRep_nil]
        | succ gg => rw [rndsR, if_neg (by omega), wRep_nil])
      have HF2 : Hid (OwnSp w1 B (.slice (some ⟨g, 0, none⟩) l.length c) FIN) := Lib.hid (by rw [← HF.out]; exact HO1.out)
      go_wp2
      go_end0
      exact ⟨rfl, HF2.out, HK.out⟩
end

end Go.Proofs.YtgfknlkpdiejgaaGreatDoor

namespace Go.Proofs.YtgfknlkpdiejgaaGreatDoor
open Go Go.RowKit
section
variable {W : World} {x : Value} {s : ByteArray} {m : List UInt8} {nw ge g c B : Nat}
set_option maxRecDepth 100000 in
set_option maxHeartbeats 16000000 in
theorem lay_rep (h : Hd) (s0 : Nd) (hk : h.kind = 8) (IH : LayOf W x s m nw ge g c B s0) (hge : ge ≠ g) (hg : W.heap.size ≤ g) (hS : IsScene W x s m) (hT : Tab W) (hnw : s.size / 64 < nw) (hnn : nw ≤ 1000000) (hss : s.size ≤ 1000000) (hm : m.length ≤ 10000000) : LayOf W x s m nw ge g c B (.mk h [s0]) := by
  intro svn w l a b tg tk hN hA htg hf hsm hx hE hO ht hb
  simp only [Nd.h] at hA
  have n0 : w.cell? ⟨tg, tk, none⟩ = some (.int .i64 h.kind) := hA 0 (by decide)
  have hc := repeat_any h s0 hk IH hge hg hS hT hnw hnn hss hm svn w l a b tg tk hN hA htg hf hsm hx hE hO ht hb
  rw [← walk_rep (L := lfM s m) hk] at hc
  have HC := Lib.hid hc
  rw [hk] at n0
  clear hN hA hf hsm hx hE hO ht hk IH hc hS hT
  go_enter Tryz.func55, Tryz.ntmps55
  go_wp2_with (go_at_call 74; refine HC.out.mono ?_; rintro e w4 ⟨rfl, hO4, hk4⟩)
  go_end0
  exact ⟨rfl, hO4, hk4⟩
theorem lay_any (hge : ge ≠ g) (hg : W.heap.size ≤ g) (hS : IsScene W x s m) (hT : Tab W) (hnw : s.size / 64 < nw) (hnn : nw ≤ 1000000) (hss : s.size ≤ 1000000) (hm : m.length ≤ 10000000) : ∀ t : Nd, LayOf W x s m nw ge g c B t := Nd.ind fun h subs ih => by
  intro svn w l a b tg tk hN hA htg hf hsm hx hE hO ht hb
  rcases form_cases hf with ⟨hk, _⟩ | ⟨hk, _⟩ | ⟨hk, _⟩ | ⟨hk, _⟩ | ⟨hk, _⟩ | ⟨hk, _⟩ | ⟨hk, hn, _⟩ | ⟨hk, hn, _⟩
  · exact lay_leaf h subs (by omega) (by omega) svn w l a b tg tk hN hA htg hf hsm hx hE hO ht hb
  · exact lay_leaf h subs (by omega) (by omega) svn w l a b tg tk hN hA htg hf hsm hx hE hO ht hb
  · exact lay_leaf h subs (by omega) (by omega) svn w l a b tg tk hN hA htg hf hsm hx hE hO ht hb
  · exact lay_leaf h subs (by omega) (by omega) svn w l a b tg tk hN hA htg hf hsm hx hE hO ht hb
  · exact lay_seq h subs hk ih hge hg hS hT hnw hnn hss hm svn w l a b tg tk hN hA htg hf hsm hx hE hO ht hb
  · exact lay_alt h subs hk ih hg hS hT hnw (by omega) hss hm svn w l a b tg tk hN hA htg hf hsm hx hE hO ht hb
  · obtain ⟨s0, rfl⟩ := List.length_eq_one_iff.1 hn
    exact lay_group h s0 hk (ih s0 (by simp)) hge hg svn w l a b tg tk hN hA htg hf hsm hx hE hO ht hb
  · obtain ⟨s0, rfl⟩ := List.length_eq_one_iff.1 hn
    exact lay_rep h s0 hk (ih s0 (by simp)) hge hg hS hT hnw hnn hss hm svn w l a b tg tk hN hA htg hf hsm hx hE hO ht hb
end

end Go.Proofs.YtgfknlkpdiejgaaGreatDoor

namespace Go.Proofs.YtgfknlkpdiejgaaGreatDoor
open Go Go.RowKit

/-- A slice of integers reads as this list. -/
def RdJ (w : World) (v : Value) (l : List Int) : Prop := ∃ A c, v = .slice A l.length c ∧ ∀ j (h : j < l.length), ∃ g o, A = some ⟨g, o, none⟩ ∧ w.cell? ⟨g, o + j, none⟩ = some (.int .i64 l[j])
theorem RdJ.ext {w w' : World} {v : Value} {l : List Int} (h : RdJ w v l) (hx : Ext w w') : RdJ w' v l := by
  obtain ⟨A, c, hv, hc⟩ := h
  exact ⟨A, c, hv, fun j hj => by obtain ⟨g, o, hA, h1⟩ := hc j hj; exact ⟨g, o, hA, hx.cell h1⟩⟩
/-- A call's error. -/
def outB (n : Nat) (ats : List Int) : Bool := ats.any fun i => decide (i < 0) || decide ((n : Int) < i)
def askN (t : Nd) (n : Nat) (G : Int) (ats : List Int) : Nat := if chkN t ≠ 0 then chkN t else if outB n ats = true ∨ G < 0 ∨ 999 < G then 15 else 0
theorem ask_ok {t : Nd} {n : Nat} {G : Int} {ats : List Int} (h : askN t n G ats = 0) : chkN t = 0 ∧ outB n ats = false ∧ 0 ≤ G ∧ G ≤ 999 := by
  unfold askN at h
  split at h
  · rename_i h1; exact absurd h h1
  · rename_i h1
    split at h
    · cases h
    · rename_i h2
      refine ⟨by simpa using h1, ?_, by omega, by omega⟩
      cases e : outB n ats with
      | false => rfl
      | true => exact absurd (.inl e) h2
/-- What asked answers. -/
def AskR (w : World) (x : Value) (nw : Nat) (k : Nat) (G : Int) (A : Nat → Addr) (r : Ending) (w' : World) : Prop :=
  (k ≠ 0 ∧ r = .returned (.tuple #[.pointer none, errV (A (k - 1))]) ∧ Ext w w') ∨
  (k = 0 ∧ ∃ ge g, r = .returned (.tuple #[.pointer (some ⟨ge, 0, none⟩), .nilIface]) ∧ EnSp w' ge x nw g (G.toNat + 1) (G.toNat + 1) ∧ OwnSp w' w.heap.size (.slice (some ⟨g, 0, none⟩) (G.toNat + 1 : Nat) (G.toNat + 1)) (List.replicate (G.toNat + 1) (-1, -1)) ∧ ge ≠ g ∧ w.heap.size ≤ g ∧ Ext w w')
theorem ownS_lt {w : World} {B g nn c : Nat} {l : List (Int × Int)} (hO : OwnSp w B (.slice (some ⟨g, 0, none⟩) nn c) l) : g < w.heap.size := by
  rcases OwnR.slice hO with ⟨h0, _⟩ | ⟨g', cap, cur, hv, _, hB, _⟩
  · cases h0
  · simp only [Value.slice.injEq, Option.some.injEq, Addr.mk.injEq] at hv
    rw [hv.1.1]
    exact hB.lt
theorem own_zero {w : World} {B g n : Nat} (h : OwnR w B 52 2 (.slice (some ⟨g, 0, none⟩) n n) (List.replicate n [Value.int .i64 0, Value.int .i64 0])) : OwnSp w B (.slice (some ⟨g, 0, none⟩) n n) (List.replicate n (0, 0)) := by
  have e1 : spR (List.replicate n (0, 0)) = List.replicate n [Value.int .i64 0, Value.int .i64 0] := by simp [spR, spC, List.map_replicate]
  unfold OwnSp
  rw [e1]
  exact h
theorem info_spZ2 : (Tryz.prog.info? 52).map (fun i => (i.zero, i.size, i.bytes)) = some (some (.agg [Value.int .i64 0, Value.int .i64 0].toArray), 2, 16) := by kernel_rfl

set_option maxRecDepth 100000 in
set_option maxHeartbeats 16000000 in
theorem asked_any (t : Nd) (svn x sa : Value) (s : ByteArray) (m : List UInt8) (G : Int) (ats : List Int) (w : World) (A : Nat → Addr) (lim : Int) (hn : NdOk w t svn) (hS : IsScene w x s m) (ha : RdJ w sa ats) (hE : Err3 w A) (v14 : w.cell? ⟨14, 0, none⟩ = some (errV (A 14))) (hm : lim ≤ 1000000) (hfew : 0 ≤ leftN t lim) (hs : s.size ≤ 200000000000000) (hal : ats.length ≤ 1000) :
    Calls Tryz.prog 23 #[nodeV t.h svn, x, .int .i64 G, sa] w (AskR w x (s.size / 64 + 1) (askN t s.size G ats) G A) := by
  have HC := Lib.hid (fun W (hW : Ext w W) => check_any t svn W A lim (hn.ext hW) (hE.ext hW) hm hfew)
  have HL := Lib.hid (fun W (hW : Ext w W) => len_any x s m W (hS.ext hW))
  have HK := Lib.hid (show askN t s.size G ats = if chkN t ≠ 0 then chkN t else if outB s.size ats = true ∨ G < 0 ∨ 999 < G then 15 else 0 from rfl)
  obtain ⟨gx, hxv⟩ : ∃ gx, x = .pointer (some ⟨gx, 0, none⟩) := by obtain ⟨g, _, h, _⟩ := hS; exact ⟨g, h⟩
  subst hxv
  obtain ⟨SA, sc, rfl, hsa⟩ := ha
  have HSA := Lib.hid hsa
  clear hn hS hE hm hfew hsa
  generalize askN t s.size G ats = res at *
  generalize chkN t = ck at *
  generalize t.h = h at *
  unfold errV at v14
  go_enter Tryz.func23, Tryz.ntmps23
  go_upto_region 1 with (refine wpl_boxNd rfl _ rfl h _ rfl ?_; intro z w1 hb hx1 ez sz)
  by_cases h0 : ck = 0
  case neg =>
    have FIN : Hid (res = ck) := Lib.hid (by rw [HK.out, if_pos h0])
    have NZ := Lib.hid h0
    have he : errR A ck = errV (A (ck - 1)) := by unfold errR; rw [if_neg h0]
    rw [he] at HC
    unfold errV at HC
    clear HK h0 he HL v14
    go_wp2_with (first
      | (refine wpl_loadNd rfl _ rfl z 0 h _ rfl hb.nd ?_)
      | (go_at_call 42; refine (HC.out _ hx1).mono ?_; rintro e w3 ⟨rfl, hx3⟩))
    go_ret2
    exact .inl ⟨by rw [FIN.out]; exact NZ.out, by rw [FIN.out]; rfl, hx1.trans hx3⟩
  have HK1 : Hid (res = if outB s.size ats = true ∨ G < 0 ∨ 999 < G then 15 else 0) := Lib.hid (by rw [HK.out, if_neg (by omega)])
  have he : errR A ck = .nilIface := by rw [h0]; rfl
  rw [he] at HC
  clear HK h0 he
  go_upto_region 4 with (first
    | (refine wpl_loadNd rfl _ rfl z 0 h _ rfl hb.nd ?_)
    | (go_at_call 42; refine (HC.out _ hx1).mono ?_; rintro e w3 ⟨rfl, hx3⟩))
  have HX := Lib.hid (hx1.trans hx3)
  have v14' := (hx1.trans hx3).cell v14
  have HLE := Lib.hid hal
  clear hb hx1 ez sz hx3 v14 HC
  have FAIL : Hid (∀ W e, e = Ending.returned (.tuple #[.pointer none, .iface 142 (.pointer (some (A 14)))]) → Ext w W → res = 15 → AskR w (.pointer (some ⟨gx, 0, none⟩)) (s.size / 64 + 1) res G A e W) := Lib.hid (fun W e h1 h2 h3 => .inl ⟨by omega, by rw [h1, h3]; rfl, h2⟩)
  go_wp2
  go_loopw [22] (fun iv wr => ∃ k : Nat, k ≤ ats.length ∧ iv = .int .i64 k ∧ wr = w3 ∧ Hid (∀ j (hj : j < ats.length), j < k → 0 ≤ ats[j] ∧ ats[j] ≤ s.size)) (fun iv _ => ats.length - (intOf iv).toNat)
  case atStart => exact ⟨0, Nat.zero_le _, rfl, rfl, Lib.hid (fun j _ h => absurd h (Nat.not_lt_zero _))⟩
  case round =>
    obtain ⟨k, hk, rfl, rfl, HG⟩ := hrel
    by_cases hlt : k < ats.length
    · have q9 : (k : Int) < (ats.length : Int) := by omega
      obtain ⟨g0, o0, rfl, hc⟩ := HSA.out k hlt
      have hc' := HX.out.cell hc
      have HIN := Lib.hid (List.getElem_mem hlt)
      have HAT : Hid (∀ i, i = ats[k] → (i < 0 ∨ (s.size : Int) < i) → res = 15) := Lib.hid (fun i hi hh => by
        rw [HK1.out, if_pos]
        refine .inl ?_
        unfold outB
        rw [List.any_eq_true]
        refine ⟨ats[k], HIN.out, ?_⟩
        rw [← hi]
        simp only [Bool.or_eq_true, decide_eq_true_eq]
        exact hh)
      have HGN : Hid (∀ i, i = ats[k] → 0 ≤ i → i ≤ s.size → ∀ j (hj : j < ats.length), j < k + 1 → 0 ≤ ats[j] ∧ ats[j] ≤ s.size) := Lib.hid (fun i hi h1 h2 j hj hjk => by
        by_cases e : j = k
        · subst e; rw [← hi]; exact ⟨h1, h2⟩
        · exact HG.out j hj (by omega))
      clear hc HG
      have HLx := Lib.hid (HL.out _ HX.out)
      generalize hat : ats[k] = i at *
      have HA2 := Lib.hid (HAT.out i rfl)
      have HG2 := Lib.hid (HGN.out i rfl)
      clear HAT HGN HIN hat
      by_cases c1 : i < 0
      · have FIN := Lib.hid (HA2.out (.inl c1))
        clear HA2 HG2
        go_upto_region 8 with (go_at_call 24; refine HLx.out.mono ?_; rintro e w4 ⟨rfl, rfl⟩)
        go_region
        all_goals go_wp2
        all_goals go_ret2
        all_goals exact FAIL.out _ _ rfl (HX.out.drew) FIN.out
      by_cases c2 : (s.size : Int) < i
      · have FIN := Lib.hid (HA2.out (.inr c2))
        clear HA2 HG2
        go_upto_region 8 with (go_at_call 24; refine HLx.out.mono ?_; rintro e w4 ⟨rfl, rfl⟩)
        go_region
        all_goals go_wp2
        all_goals go_ret2
        all_goals exact FAIL.out _ _ rfl (HX.out.drew) FIN.out
      have HG3 := Lib.hid (HG2.out (by omega) (by omega))
      clear HA2 HG2
      go_wp2_with (go_at_call 24; refine HLx.out.mono ?_; rintro e w4 ⟨rfl, rfl⟩)
      go_roundw
      case rel => exact ⟨k + 1, hlt, by go_num, by simp, HG3⟩
      case measure => simp [intOf]; omega
    · have q9 : ¬ (k : Int) < (ats.length : Int) := by omega
      have hob : outB s.size ats = false := by
        unfold outB
        rw [List.any_eq_false]
        intro i hi
        obtain ⟨j, hj, rfl⟩ := List.getElem_of_mem hi
        have := HG.out j hj (by omega)
        simp only [Bool.or_eq_true, decide_eq_true_eq]
        omega
      have HK2 : Hid (res = if G < 0 ∨ 999 < G then 15 else 0) := Lib.hid (by rw [HK1.out, hob]; simp)
      clear HG HK1 hob
      by_cases c1 : G < 0
      · have FIN : Hid (res = 15) := Lib.hid (by rw [HK2.out, if_pos (.inl c1)])
        clear HK2
        go_upto_region 11 with fail
        go_region
        all_goals go_wp2
        all_goals go_ret2
        all_goals exact FAIL.out _ _ rfl (HX.out.drew) FIN.out
      by_cases c2 : 999 < G
      · have FIN : Hid (res = 15) := Lib.hid (by rw [HK2.out, if_pos (.inr c2)])
        clear HK2
        go_upto_region 11 with fail
        go_region
        all_goals go_wp2
        all_goals go_ret2
        all_goals exact FAIL.out _ _ rfl (HX.out.drew) FIN.out
      have FIN : Hid (res = 0) := Lib.hid (by rw [HK2.out, if_neg (by omega)])
      clear HK2 FAIL v14'
      obtain ⟨gn, rfl⟩ := Int.eq_ofNat_of_zero_le (show 0 ≤ G by omega)
      have q1 : IntKind.i64.wrap ((gn : Int) + 1) = ((gn + 1 : Nat) : Int) := by rw [IntKind.wrap_i64]; omega
      go_upto_region 12 with fail
      have hx0 : Hid (Ext wr wr) := Lib.hid (Ext.refl _)
      go_cut [13] (fun v wx => ∃ ge g, v = .pointer (some ⟨ge, 0, none⟩) ∧ EnSp wx ge (.pointer (some ⟨gx, 0, none⟩)) (s.size / 64 + 1) g (gn + 1) (gn + 1) ∧ OwnSp wx w.heap.size (.slice (some ⟨g, 0, none⟩) (gn + 1) (gn + 1)) (List.replicate (gn + 1) (0, 0)) ∧ ge ≠ g ∧ w.heap.size ≤ g ∧ Ext wr wx)
      case first =>
        refine wp_region_predz 43 8 [fun v _ => v = .pointer (some ⟨gx, 0, none⟩), fun v _ => v = .pointer (some ⟨gx, 0, none⟩), fun v _ => v = .int .i64 s.size, fun v _ => v = .int .i64 ((s.size : Int) / 64), fun v _ => v = .int .i64 ((s.size : Int) / 64 + 1), fun v _ => v = .int .i64 gn, fun v _ => v = .int .i64 ((gn : Int) + 1), fun v W' => ∃ g, v = .slice (some ⟨g, 0, none⟩) (gn + 1) (gn + 1) ∧ w.heap.size ≤ g ∧ OwnSp W' w.heap.size (.slice (some ⟨g, 0, none⟩) (gn + 1) (gn + 1)) (List.replicate (gn + 1) (0, 0))] ((Lasts.nil.cons fun (v : Value) V V' hx ⟨g, h1, h2, h3⟩ => ⟨g, h1, h2, OwnR.ext h3 hx⟩).is.is.is.is.is.is.is) (by kernel_rfl) (by kernel_rfl) (by kernel_rfl) (by kernel_rfl) (by kernel_rfl) (by kernel_rfl) (by kernel_rfl) ?_
        intro T hT
        have r6 : List.range 8 = [0, 1, 2, 3, 4, 5, 6, 7] := rfl
        simp only [spliceT, r6, List.map_cons, List.map_nil, List.take_succ_cons, List.take_zero, List.drop_succ_cons, List.drop_zero, List.cons_append, List.nil_append, Nat.reduceAdd] at hT
        simp only [List.take_succ_cons, List.take_zero, List.drop_succ_cons, List.drop_zero, AllS, Nat.reduceAdd]
        refine ⟨⟨?_, ?_, ?_, ?_, ?_, ?_, ?_, ?_, trivial⟩, ?_⟩
        · intro u W' hx hd'
          clear hd'
          rw [hT u]
          go_wp2
          exact stepQ_mk ⟨Ext.refl _, _, by first | (rw [hT]; simp [updN]) | simp [updN], rfl⟩
        · intro u W' hx hd'
          clear hd'
          rw [hT u]
          go_wp2
          exact stepQ_mk ⟨Ext.refl _, _, by first | (rw [hT]; simp [updN]) | simp [updN], rfl⟩
        · intro u W' hx hd'
          have t1 := hd' 1 (mem_of (by kernel_rfl))
          clear hd'
          replace t1 : u 1 = _ := t1
          rw [hT u, t1]
          have HLY := Lib.hid (HL.out W' (HX.out.trans (hx0.out.trans hx)))
          go_wp2_with (go_at_call 24; refine HLY.out.mono ?_; rintro e w6 ⟨rfl, rfl⟩)
          exact stepQ_mk ⟨Ext.refl _, _, by first | (rw [hT]; simp [updN, t1]) | simp [updN, t1], rfl⟩
        · intro u W' hx hd'
          have t2 := hd' 2 (mem_of (by kernel_rfl))
          clear hd'
          replace t2 : u 2 = _ := t2
          rw [hT u, t2]
          go_wp2
          exact stepQ_mk ⟨Ext.refl _, _, by first | (rw [hT]; simp [updN, t2]) | simp [updN, t2], rfl⟩
        · intro u W' hx hd'
          have t3 := hd' 3 (mem_of (by kernel_rfl))
          clear hd'
          replace t3 : u 3 = _ := t3
          rw [hT u, t3]
          go_wp2
          exact stepQ_mk ⟨Ext.refl _, _, by first | (rw [hT]; simp [updN, t3]) | simp [updN, t3], rfl⟩
        · intro u W' hx hd'
          clear hd'
          rw [hT u]
          go_wp2
          exact stepQ_mk ⟨Ext.refl _, _, by first | (rw [hT]; simp [updN]) | simp [updN], rfl⟩
        · intro u W' hx hd'
          have t5 := hd' 5 (mem_of (by kernel_rfl))
          clear hd'
          replace t5 : u 5 = _ := t5
          rw [hT u, t5]
          go_wp2
          exact stepQ_mk ⟨Ext.refl _, _, by first | (rw [hT]; simp [updN, t5]) | simp [updN, t5], rfl⟩
        · intro u W' hx hd'
          have t6 := hd' 6 (mem_of (by kernel_rfl))
          clear hd'
          replace t6 : u 6 = _ := t6
          rw [hT u, t6]
          have HSZ := Lib.hid (HX.out.trans (hx0.out.trans hx)).size
          go_wp2_with (refine wpList_makeR rfl _ _ _ rfl w.heap.size 52 [.int .i64 0, .int .i64 0] 2 16 Tryz.underlying36 info_spZ2 rfl (by decide) (gn + 1) rfl rfl (by omega) (by omega) HSZ.out ?_; intro g6 w6 hO6 hx6 eg6 sg6)
          exact stepQ_mk ⟨hx6, _, by first | (rw [hT]; simp [updN, t6]) | simp [updN, t6], ⟨g6, rfl, by rw [← eg6]; exact HSZ.out, own_zero hO6⟩⟩
        · intro u W' hx hp
          have t0 : u 0 = _ := hp 0 (by omega)
          have t4 : u 4 = _ := hp 4 (by omega)
          obtain ⟨g, t7, hg, hO⟩ := hp 7 (by omega)
          clear hp
          rw [hT u, t0, t4, t7]
          clear hT t0 t4 t7
          have HXX := Lib.hid hx
          have HO := Lib.hid hO
          have HG := Lib.hid hg
          clear hO hg hx
          go_wp2
          have e1 : ((s.size : Int) / 64 + 1) = ((s.size / 64 + 1 : Nat) : Int) := by omega
          rw [e1]
          have hB := Blk.new W' 93 #[.pointer (some ⟨gx, 0, none⟩), .int .i64 ((s.size / 64 + 1 : Nat) : Int), .slice (some ⟨g, 0, none⟩) (gn + 1) (gn + 1)]
          go_meet
          case rel => exact ⟨W'.heap.size, g, rfl, hB, OwnR.ext HO.out ((Ext.refl W').alloc _), fun e => (by have h1 := ownS_lt HO.out; omega), HG.out, HXX.out.alloc _⟩
      obtain ⟨ge, g, rfl, hE, hO, hne, hg, hx2⟩ := hcut
      obtain ⟨w2, hw2⟩ : ∃ w, w = wc := ⟨_, rfl⟩
      subst hw2
      have hxw := HX.out.trans hx2
      have HXW := Lib.hid hxw
      have e2 : w2.cell? ⟨ge, 2, none⟩ = some (.slice (some ⟨g, 0, none⟩) (gn + 1) (gn + 1)) := hE.cell 2
      have HE := Lib.hid hE
      have HO := Lib.hid hO
      have HG := Lib.hid hg
      have HNE := Lib.hid hne
      have hk44 : Keeps (· = g) w2 w2 := Keeps.refl _ _
      clear hxw hx2 hE hO hg hne q9 hlt hk HL HX HSA
      go_wp2
      go_loopw [58] (fun i wr => ∃ (k : Nat), k ≤ gn + 1 ∧ i = .int .i64 k ∧ OwnSp wr w.heap.size (.slice (some ⟨g, 0, none⟩) (gn + 1) (gn + 1)) (List.replicate k (-1, -1) ++ List.replicate (gn + 1 - k) (0, 0)) ∧ Keeps (· = g) w2 wr) (fun i _ => gn + 1 - (intOf i).toNat)
      case atStart => exact ⟨0, Nat.zero_le _, rfl, HO.out, hk44⟩
      case round =>
        clear hk44
        obtain ⟨k, hk, rfl, hO, hkr⟩ := hrel
        have e2' := cell_keeps e2 hkr HNE.out
        by_cases hlt : k < gn + 1
        · have HST := Lib.hid (rep_set k (gn + 1) hlt)
          have HLL : Hid (k < (List.replicate k ((-1 : Int), (-1 : Int)) ++ List.replicate (gn + 1 - k) (0, 0)).length) := Lib.hid (by simp; omega)
          generalize (List.replicate k ((-1 : Int), (-1 : Int)) ++ List.replicate (gn + 1 - k) (0, 0)) = lk at *
          have d1 : (k : Int) < ((gn + 1 : Nat) : Int) := by omega
          clear e2
          go_wp2_with (refine wpl_setSp rfl _ _ rfl rfl w.heap.size g _ (gn + 1) lk k (-1, -1) rfl rfl hO HLL.out ?_; intro w6 hO6 hk6)
          go_roundw
          case rel => exact ⟨k + 1, by omega, by go_num, by rw [← HST.out]; exact hO6, hkr.trans hk6 (fun _ _ e => e)⟩
          case measure => simp [intOf]; omega
        · have hkk : k = gn + 1 := by omega
          have he : (List.replicate k ((-1 : Int), (-1 : Int)) ++ List.replicate (gn + 1 - k) (0, 0)) = List.replicate (gn + 1) (-1, -1) := by rw [hkk, Nat.sub_self]; simp
          rw [he] at hO
          have d1 : ¬ (k : Int) < ((gn + 1 : Nat) : Int) := by omega
          clear he hkk hk e2
          go_wp2
          go_ret2
          refine .inr ⟨FIN.out, ge, g, rfl, ?_⟩
          rw [Int.toNat_natCast]
          exact ⟨HE.out.keeps hkr HNE.out, hO, HNE.out, HG.out, HXW.out.keep1 hkr HG.out⟩

end Go.Proofs.YtgfknlkpdiejgaaGreatDoor

namespace Go.Proofs.YtgfknlkpdiejgaaGreatDoor
open Go Go.RowKit
section
variable {W : World} {x : Value} {s : ByteArray} {m : List UInt8} {nw ge g c B : Nat}
set_option maxRecDepth 100000 in
set_option maxHeartbeats 16000000 in
theorem told_any (t : Nd) (svn : Value) (w : World) (l : List (Int × Int)) (a b : Nat) (hge : ge ≠ g) (hg : W.heap.size ≤ g) (hS : IsScene W x s m) (hT : Tab W) (hnw : s.size / 64 < nw) (hnn : nw ≤ 1000000) (hss : s.size ≤ 1000000) (hm : m.length ≤ 10000000) (hN : NdCap W t svn) (hf : formB t = true) (hsm : smallN t) (hx : Ext W w) (hE : EnSp w ge x nw g l.length c) (hO : OwnSp w B (.slice (some ⟨g, 0, none⟩) l.length c) l) (hl : 0 < l.length) (ht : tkN (lfM s m) t a b) (hb : b ≤ s.size) :
    Calls Tryz.prog 28 #[.pointer (some ⟨ge, 0, none⟩), nodeV t.h svn, .int .i64 a, .int .i64 b] w fun r w' => r = .returned (.slice (some ⟨g, 0, none⟩) l.length c) ∧ OwnSp w' B (.slice (some ⟨g, 0, none⟩) l.length c) ((walkN (bestN (lfM s m) t a b) t l).set 0 (a, b)) ∧ Ext W w' := by
  have hgl := ownS_lt hO
  have HL := Lib.hid (fun w' z (hx' : Ext w w') (hz : NdAt w' z 0 t.h svn) (hzg : z ≠ g) => lay_any hge hg hS hT hnw hnn hss hm t svn w' l a b z 0 hN hz hzg hf hsm (hx.trans hx') (Blk.ext hE hx') (OwnR.ext hO hx') ht hb)
  have HWL : Hid ((walkN (bestN (lfM s m) t a b) t l).length = l.length) := Lib.hid (walkN_len _ _ _)
  have HE := Lib.hid hE
  have HX := Lib.hid hx
  have HG := Lib.hid hg
  clear hS hT hnw hnn hss hm hN hf hsm hx hE hO ht hb hg
  generalize walkN (bestN (lfM s m) t a b) t l = lw at *
  generalize t.h = h at *
  obtain ⟨n, hn⟩ : ∃ n, n = l.length := ⟨_, rfl⟩
  rw [← hn] at HL HWL hl HE
  rw [← hn]
  have HN := Lib.hid hn
  clear hn
  go_enter Tryz.func28, Tryz.ntmps28
  go_upto_region 1 with (refine wpl_boxNd rfl _ rfl h _ rfl ?_; intro z w1 hb hx1 ez sz)
  have HC := Lib.hid (HL.out w1 z hx1 hb.nd (by omega))
  have HE1 : Hid (EnSp w1 ge x nw g n c) := Lib.hid (Blk.ext HE.out hx1)
  clear HL HE
  go_upto_region 2 with (go_at_call 55; refine HC.out.mono ?_; rintro e w2 ⟨rfl, hO2, hk2⟩)
  have hE2 : EnSp w2 ge x nw g n c := HE1.out.keeps hk2 hge
  have hx2 := (HX.out.trans hx1).keep1 hk2 HG.out
  have e2 : w2.cell? ⟨ge, 2, none⟩ = some (.slice (some ⟨g, 0, none⟩) n c) := hE2.cell 2
  have HLW : Hid (0 < lw.length) := Lib.hid (by rw [HWL.out]; exact hl)
  have HX2 := Lib.hid hx2
  clear hx2 hE2 HE1 hk2 hb hx1 ez sz HC
  go_wp2_with (refine wpl_setSp rfl _ _ rfl rfl B g _ c lw 0 ((a : Int), (b : Int)) rfl rfl hO2 HLW.out ?_; intro w3 hO3 hk3; replace e2 := cell_keeps e2 hk3 hge)
  go_ret
  exact ⟨rfl, hO3, HX2.out.keep1 hk3 HG.out⟩
end

end Go.Proofs.YtgfknlkpdiejgaaGreatDoor
