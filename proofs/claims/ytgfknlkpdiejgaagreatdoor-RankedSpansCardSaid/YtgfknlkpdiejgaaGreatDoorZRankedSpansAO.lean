/- engine.rounds as a contract, by the contract of lead at the repeat's tree. Conditions: the engine, the scene, the tree and the words lie in memory. engine.parts as a contract, by the contract of lead at each of the trees. Conditions: the engine, the scene, the trees and the words lie in memory. A region that draws its order: each operation leaves a value of which something is known that lasts as long as the world only grows; the last operation may write. No condition. The law for drawn regions over sets: each operation's temporary holds a set, a row of sets or a known value. No condition. -/
import Derived.Test.YtgfknlkpdiejgaaGreatDoorZRankedSpansAN
import Derived.Test.YtgfknlkpdiejgaaGreatDoorZRankedSpansAM
import Derived.Test.YtgfknlkpdiejgaaGreatDoorZRankedSpansAJ
import Derived.Test.YtgfknlkpdiejgaaGreatDoorLib
import Derived.StillTailTactics
import Derived.Test.YtgfknlkpdiejgaaGreatDoorSetB
namespace Go.Proofs.YtgfknlkpdiejgaaGreatDoor
open Go Go.RowKit

theorem own_litU (w : World) : Own1 (w.alloc (.cells #[] 22)) w.heap.size 22 (.slice (some ⟨w.heap.size, 0, none⟩) 0 0) [] :=
  ⟨rfl, .inr ⟨w.heap.size, 0, #[], rfl, Nat.le_refl _, heap_alloc_new w _, Nat.le_refl _, Nat.zero_le _, rfl, rfl⟩⟩
theorem RdP.news {W : World} {v : Value} {nw : Nat} {p : Pl} (h : RdP W v nw p) (h0 : 0 < nw) : (v = .slice none 0 0 ∧ pwC nw p = []) ∨ ∃ ad c, v = .slice (some ad) (pwC nw p).length c ∧ ∀ j u, (pwC nw p)[j]? = some u → W.cell? (ad.add j) = some u := by
  obtain ⟨A, c, rfl, hlc, hc⟩ := h
  obtain ⟨g, o, rfl, _⟩ := hc 0 h0
  refine .inr ⟨⟨g, o, none⟩, c, by rw [pwC_len], fun j u hu => ?_⟩
  have hj : j < nw := by
    have := (List.getElem?_eq_some_iff.1 hu).1
    rwa [pwC_len] at this
  obtain ⟨g', o', e, hcell⟩ := hc j hj
  injection e with e
  injection e with e1 e2
  subst e1 e2
  rw [pwC_get hj] at hu
  injection hu with hu
  subst hu
  have ea : (⟨g, o, none⟩ : Addr).add j = ⟨g, o + j, none⟩ := by unfold Addr.add; split <;> simp_all
  rw [ea]
  exact hcell
theorem RdP.lt {W : World} {v : Value} {nw : Nat} {p : Pl} (h : RdP W v nw p) (h0 : 0 < nw) : ∀ g, blkOf v = some g → g < W.heap.size := by
  obtain ⟨A, c, rfl, hlc, hc⟩ := h
  obtain ⟨g, o, rfl, hcell⟩ := hc 0 h0
  intro g' hg
  injection hg with hg
  subst hg
  exact World.block_lt_of_cell? W _ hcell
theorem RdP.shape {W : World} {v : Value} {nw : Nat} {p : Pl} (h : RdP W v nw p) : ∃ A c, v = .slice A nw c ∧ nw ≤ c := by
  obtain ⟨A, c, hv, hlc, _⟩ := h
  exact ⟨A, c, hv, hlc⟩
theorem pw_unary (nw : Nat) (p : Pl) : ∀ u ∈ pwC nw p, u.oneCell' = true := by
  intro u hu
  obtain ⟨j, _, rfl⟩ := List.mem_map.1 hu
  rfl
/-- What lead, parts and rounds answer: the places that are led to; in the memory of those that came in, or in new memory. -/
def LdR (W : World) (nw : Nat) (v : Value) (q : Pl) (e : Ending) (W' : World) : Prop := ∃ v', e = .returned v' ∧ Ext W W' ∧ RdP W' v' nw q ∧ (v' = v ∨ ∀ g, blkOf v' = some g → W.heap.size ≤ g)
def LeadOf (x : Value) (s : ByteArray) (m : List UInt8) (L : Hd → Int → Int → Bool) (nw : Nat) (n : Nd) : Prop :=
  ∀ (ev sv svn v : Value) (tg tk : Nat) (back : Bool) (p : Pl) (W : World), formB n = true → EnAt W ev x nw sv → IsScene W x s m → NdAt W tg tk n.h svn → NdOk W n svn → Tab W → RdP W v nw p → PlN s.size p →
    Calls Tryz.prog 25 #[ev, .pointer (some ⟨tg, tk, none⟩), v, .bool back] W (LdR W nw v (img (dirR back (tkN L n)) p))

section
variable {x : Value} {s : ByteArray} {m : List UInt8} {L : Hd → Int → Int → Bool} {nw : Nat}
set_option maxRecDepth 100000 in
set_option maxHeartbeats 8000000 in
theorem rounds_lead (n : Nd) (HL : LeadOf x s m L nw n) (hL : LOk s.size L) (hnw : s.size / 64 < nw) (hnn : nw ≤ 100000000) (hss : s.size ≤ 1000000) (ev sv svn v : Value) (tg tk mn : Nat) (mx : Int) (back : Bool) (p : Pl) (w : World)
    (hf : formB n = true) (hE : EnAt w ev x nw sv) (hS : IsScene w x s m) (hA : NdAt w tg tk n.h svn) (hN : NdOk w n svn) (hT : Tab w) (hR : RdP w v nw p) (hp : PlN s.size p) (hmn : mn ≤ 1000) (hmx : mx = -1 ∨ (mn : Int) ≤ mx) (hm2 : mx ≤ 1000) :
    Calls Tryz.prog 52 #[ev, .pointer (some ⟨tg, tk, none⟩), .int .i64 mn, .int .i64 mx, v, .bool back] w (LdR w nw v (img (rpR (dirR back (tkN L n)) mn mx) p)) := by
  have hRI : Inn s.size (dirR back (tkN L n)) := dirR_inn (tkN_mon hL n) back
  have HLD := Lib.hid (fun W (hW : Ext w W) v q (h1 : RdP W v nw q) (h2 : PlN s.size q) => HL ev sv svn v tg tk back q W hf (hE.ext hW) (hS.ext hW) (hA.ext hW) (hN.ext hW) (hT.ext hW) h1 h2)
  have HRD := Lib.hid hR
  have HP := Lib.hid hp
  have HI := Lib.hid hRI
  have HRL := Lib.hid (hR.lt (by omega))
  obtain ⟨A, c, rfl, hlc⟩ := hR.shape
  generalize dirR back (tkN L n) = R at *
  clear hf hE hS hA hN hT hp HL hL hRI hR
  by_cases h0 : mx = 0
  · have HFIN : Hid (img (rpR R mn mx) p = p) := Lib.hid (by
      have e : mn = 0 := by omega
      subst e
      rw [rep_up HI.out HP.out 0 mx 0 (.inl ⟨by omega, by omega⟩), up_zero, show pw R 0 = Rl.id from rfl, img_id])
    subst h0
    go_enter Tryz.func52, Tryz.ntmps52
    go_wp2
    go_ret
    exact ⟨_, rfl, Ext.refl _, by rw [HFIN.out]; exact HRD.out, .inl rfl⟩
  have q0 : (mx == 0) = false := by simpa using h0
  go_enter Tryz.func52, Tryz.ntmps52
  go_wp2
  go_loopw [4, 20] (fun fv iv wr => ∃ k : Nat, k ≤ mn ∧ iv = .int .i64 k ∧ RdP wr fv nw (img (pw R k) p) ∧ (fv = .slice A nw c ∨ ∀ g, blkOf fv = some g → w.heap.size ≤ g) ∧ Ext w wr) (fun _ iv _ => mn - (intOf iv).toNat)
  case atStart => exact ⟨0, Nat.zero_le _, rfl, by rw [show pw R 0 = Rl.id from rfl, img_id]; exact HRD.out, .inl rfl, Ext.refl _⟩
  case round =>
    obtain ⟨k, hk, rfl, hr, hfrom, hx⟩ := hrel
    obtain ⟨w1, hw1⟩ : ∃ w, w = wr := ⟨_, rfl⟩
    subst hw1
    have HR1 := Lib.hid hr
    have HX1 := Lib.hid hx
    have HF1 := Lib.hid hfrom
    have hpk := HP.out.img (HI.out.pw k)
    have HPK := Lib.hid hpk
    obtain ⟨A1, c1, hv1, hlc1⟩ := hr.shape
    subst hv1
    clear hr hx hfrom hpk
    have hs01 := HX1.out.size
    by_cases hlt : k < mn
    · have q9 : (k : Int) < (mn : Int) := by omega
      have HC := Lib.hid (HLD.out w1 HX1.out _ _ HR1.out HPK.out)
      have HST : Hid (img R (img (pw R k) p) = img (pw R (k + 1)) p) := Lib.hid (img_pw HI.out HP.out k).symm
      rw [HST.out] at HC
      go_wp2_with (go_at_call 25; refine HC.out.mono ?_; rintro e w2 ⟨v2, rfl, hx2, hr2, hfrom2⟩)
      go_roundw
      case rel => exact ⟨k + 1, hlt, by go_num, hr2, (hfrom2.elim (fun h => by rw [h]; exact HF1.out) (fun h => .inr (fun g hg => Nat.le_trans hs01 (h g hg)))), HX1.out.trans hx2⟩
      case measure => simp [intOf]; omega
    · have q9 : ¬ (k : Int) < (mn : Int) := by omega
      obtain rfl : k = mn := by omega
      generalize hq : img (pw R k) p = q at *
      have HQ := Lib.hid hq
      have hNW := (HR1.out.ext ((Ext.refl w1).alloc (.cells #[] 22))).news (by omega)
      have HNW := Lib.hid hNW
      have hnlt := HR1.out.lt (by omega)
      have HNL := Lib.hid hnlt
      clear hNW hq hlt hnlt
      go_upto_region 8 with (at_builtin; refine wpList_appK rfl (.tmp 28) (.tmp 29) 68 rfl w1.heap.size 22 (.int .u64 0) 8 Tryz.underlying68 info_u64 rfl _ _ (pwC nw q) rfl (own_litU w1) HNW.out (pw_unary nw q) (by simp [pwC_len]; omega) (by simp [pwC_len]; omega) (by simp) ?_; intro v3 w3 own3 hg3 hat3 _; have hK3 := (Keeps.refl (fun k => k = w1.heap.size) (w1.alloc (.cells #[] 22))).grown hg3 (fun k hk => .inr (by injection hk with hk; exact hk.symm)); have hx13 : Ext w1 w3 := ((Ext.refl w1).alloc (.cells #[] 22)).keeps hK3 (fun _ h1 h2 => by omega); rw [List.nil_append] at own3; obtain ⟨g3, c3, cur3, hv3, hg3B, hb3, hlc3, _⟩ := own_words own3 (by omega); subst hv3)
      have hg3l := hb3.lt
      have hs13 := hx13.size
      have hg1 : ∀ g, blkOf (.slice A1 nw c1) = some g → g ≠ g3 := fun g hg e => by have := HNL.out g hg; omega
      have HO3 := Lib.hid own3
      have HX3 := Lib.hid (HX1.out.trans hx13)
      have HR3 := Lib.hid (HR1.out.ext hx13)
      have HG1 := Lib.hid hg1
      have HOR := Lib.hid (fun W v5 j (h1 : OwnP W w1.heap.size (.slice (some ⟨g3, 0, none⟩) nw c3) nw (upP R q j)) (h2 : RdP W v5 nw (img R (newP R q j))) (h3 : ∀ g, blkOf v5 = some g → (Value.slice (some ⟨g3, 0, none⟩) nw c3).ownBlock ≠ some g) =>
        joinP_any (.slice (some ⟨g3, 0, none⟩) nw c3) v5 w1.heap.size nw (upP R q j) (img R (newP R q j)) W h1 h2 h3 (h2.lt (by omega)) hnn (by omega))
      clear own3 hg3 hat3 hK3 hx13 hb3 HNW HR1 hg1 HNL HRL
      go_wp2
      go_loopw [14, 15] (fun lv nv wr => ∃ j : Nat, nv = .int .i64 ((k : Int) + j) ∧ (mx < 0 ∨ (k : Int) + j ≤ mx) ∧ j ≤ s.size + 2 ∧ OwnP wr w1.heap.size (.slice (some ⟨g3, 0, none⟩) nw c3) nw (upP R q j) ∧ RdP wr lv nw (newP R q j) ∧ (∀ g, blkOf lv = some g → g ≠ g3) ∧ Keeps (· = g3) w3 wr) (fun _ nv _ => s.size + 3 + k - (intOf nv).toNat)
      case atStart => exact ⟨0, by simp, by omega, by omega, by rw [up_zero]; exact HO3.out, HR3.out, HG1.out, Keeps.refl _ _⟩
      case round =>
        obtain ⟨j, rfl, hjm, hjs, ho, hl, hlg, hK⟩ := hrel
        obtain ⟨w4, hw4⟩ : ∃ w, w = wr := ⟨_, rfl⟩
        subst hw4
        have HO4 := Lib.hid ho
        have HL4 := Lib.hid hl
        have HG4 := Lib.hid hlg
        have HK4 := Lib.hid hK
        have HX4 := Lib.hid (HX3.out.keeps hK (fun i h1 h2 => by have h3 : i = g3 := h2; omega))
        obtain ⟨A4, c4, hv4, hlc4⟩ := hl.shape
        subst hv4
        have hs14 := HX4.out.size
        have hs34 := hK.size
        have HFIN : Hid (((0 ≤ mx ∧ (k : Int) + j = mx) ∨ newP R q j = noP ∧ (mx < 0 ∨ (k : Int) + j ≤ mx)) → upP R q j = img (rpR R k mx) p) := Lib.hid (fun h => by rw [rep_up HI.out HP.out k mx j (by rw [HQ.out]; exact h), HQ.out])
        clear ho hl hlg hK
        by_cases hend : 0 ≤ mx ∧ (k : Int) + j = mx
        · have q5 : ((k : Int) + j != mx) = false := by rw [bne_eq_false_iff_eq]; exact hend.2
          have HR := Lib.hid (HFIN.out (.inl hend))
          clear hend HFIN
          go_wp2
          go_ret
          exact ⟨_, rfl, HX4.out, by rw [← HR.out]; exact RdP.of_own HO4.out, .inr (fun g hg => by (injection hg with hg); have hg' : g3 = g := hg; omega)⟩
        have q5 : ((k : Int) + j != mx) = true := by rw [bne_iff_ne]; omega
        have HEM := Lib.hid (empty_any _ nw (newP R q j) w4 HL4.out hnn)
        by_cases hz : zeroW nw (newP R q j) = true
        · rw [hz] at HEM
          have HR := Lib.hid (HFIN.out (.inr ⟨(zeroW_no (PlN.new HI.out HPK.out j) hnw).1 hz, hjm⟩))
          clear hz HFIN hend
          go_wp2_with (go_at_call 72; refine HEM.out.mono ?_; rintro e w5 ⟨rfl, rfl⟩)
          go_ret
          exact ⟨_, rfl, HX4.out, by rw [← HR.out]; exact RdP.of_own HO4.out, .inr (fun g hg => by (injection hg with hg); have hg' : g3 = g := hg; omega)⟩
        · have hz' : zeroW nw (newP R q j) = false := by simpa using hz
          rw [hz'] at HEM
          have hjb : j ≤ s.size + 1 := new_bound HI.out HPK.out (fun e => hz ((zeroW_no (PlN.new HI.out HPK.out j) hnw).2 e))
          have HC := Lib.hid (HLD.out w4 HX4.out _ _ HL4.out (PlN.new HI.out HPK.out j))
          have hjm2 : mx < 0 ∨ (k : Int) + (j + 1 : Nat) ≤ mx := by omega
          clear hz hz' HFIN hend
          go_wp2_with (first
            | (go_at_call 72; refine HEM.out.mono ?_; rintro e w5 ⟨rfl, rfl⟩)
            | (go_at_call 25; refine HC.out.mono ?_; rintro e w6 ⟨v6, rfl, hx6, hr6, hfrom6⟩; have hs6 := hx6.size; have ho6 := HO4.out.ext hx6)
            | (go_at_call 51; refine (HOR.out w6 v6 j ho6 hr6 (fun g hg e => by
                have e2 : g = g3 := own_at e
                rcases hfrom6 with h | h
                · rw [h] at hg; exact HG4.out g hg e2
                · have := h g hg; omega)).mono ?_; rintro e w7 ⟨f7, rfl, hf7, ho7, hk7⟩))
          go_roundw
          case rel =>
            rw [round_new HI.out HPK.out] at hf7
            rw [round_all HI.out HPK.out] at ho7
            refine ⟨j + 1, by go_num, hjm2, by omega, ho7, RdP.of_own hf7, fun g hg e => ?_, HK4.out.trans ((Keeps.of_ext (F := (· = g3)) hx6).trans hk7 (fun i _ h => own_at h)) (fun _ _ h => h)⟩
            rw [own_blk hf7] at hg
            have := (hf7.own g hg).1
            omega
          case measure => simp [intOf]; omega
end

end Go.Proofs.YtgfknlkpdiejgaaGreatDoor

namespace Go.Proofs.YtgfknlkpdiejgaaGreatDoor
open Go Go.RowKit

section
variable {x : Value} {s : ByteArray} {m : List UInt8} {L : Hd → Int → Int → Bool} {nw : Nat}
set_option maxRecDepth 100000 in
set_option maxHeartbeats 8000000 in
theorem parts_lead (l : List Nd) (HL : ∀ n ∈ l, LeadOf x s m L nw n) (hL : LOk s.size L) (ev sv v : Value) (A0 : Option Addr) (cl : Nat) (back : Bool) (p : Pl) (w : World)
    (hf : ∀ n ∈ l, formB n = true) (hE : EnAt w ev x nw sv) (hS : IsScene w x s m) (hN : NdsOk w l A0 0) (hT : Tab w) (hR : RdP w v nw p) (hp : PlN s.size p) (hll : l.length ≤ 1000000000) :
    Calls Tryz.prog 53 #[ev, .slice A0 l.length cl, v, .bool back] w (LdR w nw v (img (dirR back (tkS L l)) p)) := by
  have HLD := Lib.hid (fun (k : Nat) (hk : k < l.length) (tg tk : Nat) svn W (hW : Ext w W) v q (h0 : NdAt W tg tk (l[k]).h svn) (h00 : NdOk W l[k] svn) (h1 : RdP W v nw q) (h2 : PlN s.size q) => HL l[k] (List.getElem_mem hk) ev sv svn v tg tk back q W (hf _ (List.getElem_mem hk)) (hE.ext hW) (hS.ext hW) h0 h00 (hT.ext hW) h1 h2)
  have HRD := Lib.hid hR
  have HP := Lib.hid hp
  have HN := Lib.hid hN
  have HI := Lib.hid (fun l' => dirR_inn (tkS_mon hL l') back)
  have HST := Lib.hid (fun i (hi : i < l.length) (hk : nextOf back l.length i < l.length) => parts_step hL back l i hi hk hp)
  obtain ⟨A, c, rfl, hlc⟩ := hR.shape
  clear hf hE hS hN hT hp HL hL hR
  go_enter Tryz.func53, Tryz.ntmps53
  go_wp2
  go_loopw [2, 13] (fun fv iv wr => ∃ k : Nat, k ≤ l.length ∧ iv = .int .i64 k ∧ RdP wr fv nw (img (dirR back (tkS L (gone back l k))) p) ∧ (fv = .slice A nw c ∨ ∀ g, blkOf fv = some g → w.heap.size ≤ g) ∧ Ext w wr) (fun _ iv _ => l.length - (intOf iv).toNat)
  case atStart =>
    refine ⟨0, Nat.zero_le _, rfl, ?_, .inl rfl, Ext.refl _⟩
    have e : tkS L (gone back l 0) = Rl.id := by
      rw [gone_zero]
      funext a b
      rw [tkS]
      rfl
    rw [e, dir_id]
    exact HRD.out
  case round =>
    obtain ⟨k, hk, rfl, hr, hfrom, hx⟩ := hrel
    obtain ⟨w1, hw1⟩ : ∃ w, w = wr := ⟨_, rfl⟩
    subst hw1
    have HR1 := Lib.hid hr
    have HX1 := Lib.hid hx
    have HF1 := Lib.hid hfrom
    have hpk := HP.out.img (HI.out (gone back l k))
    have HPK := Lib.hid hpk
    obtain ⟨A1, c1, hv1, hlc1⟩ := hr.shape
    subst hv1
    clear hr hx hfrom hpk
    have hs01 := HX1.out.size
    by_cases hlt : k < l.length
    · have q9 : (k : Int) < (l.length : Int) := by omega
      have hnx : nextOf back l.length k < l.length := by cases back <;> simp [nextOf] <;> omega
      have hst := HST.out k hlt hnx
      obtain ⟨g, o, sv1, hA0, hat, hok⟩ := HN.out.get _ hnx
      subst hA0
      have hat1 : NdAt w g (o + nextOf back l.length k * 10) (l[nextOf back l.length k]).h sv1 := fun i hi => by have := hat i hi; rwa [Nat.zero_add] at this
      have HC := Lib.hid (HLD.out _ hnx g (o + nextOf back l.length k * 10) sv1 w1 HX1.out _ _ (hat1.ext HX1.out) (hok.ext HX1.out) HR1.out HPK.out)
      rw [← hst] at HC
      have hnv : ((nextOf back l.length k : Nat) : Int) = if back then (l.length : Int) - 1 - k else k := by cases back <;> simp [nextOf]; omega
      have HNV := Lib.hid hnv
      clear hat hat1 hok hst hnv
      generalize nextOf back l.length k = j at *
      go_upto_region 5 with fail
      go_cut [17] (fun v wx => v = .bool back ∧ w1 = wx)
      case first =>
        go_wp2
        go_meet
        case rel => exact ⟨rfl, rfl⟩
      obtain ⟨rfl, rfl⟩ := hcut
      go_step
      go_cut [10, 17] (fun v _ wx => v = .int .i64 j ∧ w1 = wx)
      case first =>
        cases back with
        | true =>
          go_wp2
          go_meet
          case rel => exact ⟨by rw [HNV.out]; rfl, rfl⟩
        | false =>
          go_wp2
          go_meet
          case rel => exact ⟨by rw [HNV.out]; rfl, rfl⟩
      obtain ⟨rfl, rfl⟩ := hcut
      go_wp2_with (go_at_call 25; refine HC.out.mono ?_; rintro e w2 ⟨v2, rfl, hx2, hr2, hfrom2⟩)
      go_roundw
      case rel => exact ⟨k + 1, hlt, by go_num, hr2, (hfrom2.elim (fun h => by rw [h]; exact HF1.out) (fun h => .inr (fun g hg => Nat.le_trans hs01 (h g hg)))), HX1.out.trans hx2⟩
      case measure => simp [intOf]; omega
    · have q9 : ¬ (k : Int) < (l.length : Int) := by omega
      obtain rfl : k = l.length := by omega
      have hr := HR1.out
      rw [gone_all] at hr
      have HR2 := Lib.hid hr
      clear hr
      go_wp2
      go_ret
      exact ⟨_, rfl, HX1.out, HR2.out, HF1.out⟩
end

end Go.Proofs.YtgfknlkpdiejgaaGreatDoor

namespace Go.Proofs.YtgfknlkpdiejgaaGreatDoor
open Go Go.RowKit

section
variable {P : Program} {ops : Array Oper} {md : Region.Mode} {Q : Exit → Act → World → Prop} {w0 : World}

def stepQ (K : Act → World → Prop) : Exit → Act → World → Prop
  | .normal, a, w => K a w
  | _, _, _ => False
def updN (u : Nat → Value) (i : Nat) (v : Value) : Nat → Value := fun j => if j = i then v else u j
def depsL (md : Region.Mode) (ops : Array Oper) (i : Nat) : List Nat := match ops[i]? with | none => [] | some o => (o.after.toList.filter (Region.binds md ·)).map (·.on)

theorem wp_stepQ {o : Oper} {a : Act} {w : World} {K K' : Act → World → Prop} (hK : ∀ a w, K a w → K' a w) (h : o.wp P a w (wpList P ops (stepQ K) []) (stepQ K)) : o.wp P a w K' Q := by
  unfold Oper.wp at *
  generalize (execOp a.eval o).run P w = r at *
  cases r with
  | ok n w' =>
    cases n <;> simp only [Oper.upon] at h ⊢ <;>
      first
        | exact hK _ _ h
        | exact Rows.mono h fun v w'' he => hK _ _ he
        | (refine Calls.mono h fun e w'' he => ?_
           cases e with
           | returned v => exact hK _ _ he
           | panicked c => exact he.elim
           | outgrown => obtain ⟨_, _, he⟩ := he; exact he.elim)
  | halt x w' =>
    cases x <;> simp only [Oper.upon] at h ⊢
    all_goals exact h.elim
theorem wpOp_of_list {i : Nat} {o : Oper} {a : Act} {w : World} {K K' : Act → World → Prop} (ho : ops[i]? = some o) (hK : ∀ a w, K a w → K' a w) (h : wpList P ops (stepQ K) [o] a w) : wpOp P ops Q i K' a w := by
  unfold wpOp
  simp only [ho]
  unfold wpList at h
  by_cases hw : Region.wanted o (yielded ops a.tmps) = true
  · rw [if_pos hw] at h ⊢
    rcases h with h | ⟨_, _, _, h⟩
    · exact .inl (wp_stepQ hK h)
    · exact h.elim
  · rw [if_neg hw] at h ⊢
    exact hK _ _ h
theorem wpOp_of_last {i : Nat} {o : Oper} {a : Act} {w : World} {K' : Act → World → Prop} (ho : ops[i]? = some o) (hK : ∀ a w, Q .normal a w → K' a w) (h : wpList P ops Q [o] a w) : wpOp P ops Q i K' a w := by
  unfold wpOp
  simp only [ho]
  unfold wpList at h
  by_cases hw : Region.wanted o (yielded ops a.tmps) = true
  · rw [if_pos hw] at h ⊢
    exact h.imp (Oper.wp_mono hK) id
  · rw [if_neg hw] at h ⊢
    exact hK _ _ h

def cntF (l : List Bool) : Nat := (l.filter (fun b => !b)).length
theorem cntF_set : ∀ (l : List Bool) (i : Nat), l[i]? = some false → cntF (l.set i true) + 1 = cntF l
  | [], i, h => by cases h
  | b :: l, 0, h => by
    simp only [List.getElem?_cons_zero, Option.some.injEq] at h
    subst h
    simp [cntF]
  | b :: l, i + 1, h => by
    have ih := cntF_set l i (by simpa using h)
    cases b <;> simp [cntF] at ih ⊢ <;> omega
theorem cntF_pos : ∀ (l : List Bool), cntF l ≠ 0 → ∃ i : Nat, l[i]? = some false
  | [], h => absurd rfl h
  | false :: l, _ => ⟨0, rfl⟩
  | true :: l, h => by
    obtain ⟨i, hi⟩ := cntF_pos l (fun h0 => h (by simpa [cntF] using h0))
    exact ⟨i + 1, hi⟩
theorem cntF_zero : ∀ (l : List Bool), cntF l = 0 → ∀ i : Nat, l[i]? = some false → False
  | [], _, _, h => by cases h
  | false :: l, h, _, _ => by simp [cntF] at h
  | true :: l, h, 0, h2 => by simp at h2
  | true :: l, h, i + 1, h2 => cntF_zero l (by simpa [cntF] using h) i (by simpa using h2)
theorem getD_false_iff {listed : Array Bool} {i : Nat} : listed.getD i true = false ↔ listed.toList[i]? = some false := by
  rw [Array.getD_eq_getD_getElem?, Array.getElem?_toList]
  cases h : listed[i]? with
  | none => simp
  | some b => simp

theorem ready_none {listed : Array Bool} (h : ∀ i, i < ops.size → listed.getD i true = true) : Region.ready md ops listed = [] := by
  refine List.eq_nil_iff_forall_not_mem.2 fun i hi => ?_
  obtain ⟨h1, o, ho, _⟩ := mem_ready.1 hi
  rw [h i (Array.getElem?_eq_some_iff.1 ho).1] at h1
  cases h1
theorem ready_some {listed : Array Bool} (hs : listed.size = ops.size) (hback : (List.range ops.size).all (fun i => (depsL md ops i).all (decide <| · < i)) = true) : ∀ i, listed.getD i true = false → Region.ready md ops listed ≠ [] := fun i => by
  induction i using Nat.strongRecOn with
  | ind i ih =>
    intro h hr
    have hi : i < ops.size := by
      rw [← hs]
      have := (List.getElem?_eq_some_iff.1 (getD_false_iff.1 h)).1
      simpa using this
    have hnot : i ∉ Region.ready md ops listed := by rw [hr]; simp
    apply hnot
    refine mem_ready.2 ⟨h, ops[i], Array.getElem?_eq_getElem hi, fun e he hb => ?_⟩
    cases hl : listed.getD e.on false with
    | true => rfl
    | false =>
      exfalso
      have hd : e.on ∈ depsL md ops i := by
        unfold depsL
        rw [Array.getElem?_eq_getElem hi]
        exact List.mem_map.2 ⟨e, List.mem_filter.2 ⟨by simpa using he, hb⟩, rfl⟩
      have hlt : e.on < i := by
        have := (List.all_eq_true.1 hback) i (List.mem_range.2 hi)
        simpa using (List.all_eq_true.1 this) _ hd
      exact ih e.on hlt (getD_in (by omega) hl) hr

theorem wpAny_inv (n : Nat) (hn0 : n ≤ ops.size) (T : (Nat → Value) → Act) (Post : Nat → Value → World → Prop) (stable : ∀ i v W W', Ext W W' → Post i v W → Post i v W')
    (hback : (List.range ops.size).all (fun i => (depsL md ops i).all (decide <| · < i)) = true)
    (hlast : (List.range ops.size).all (fun i => decide (i < n) || (decide (i = n) && decide (ops.size = n + 1) && (List.range n).all fun j => (depsL md ops n).contains j)) = true)
    (step : ∀ i o, i < n → ops[i]? = some o → ∀ u W, Ext w0 W → (∀ j ∈ depsL md ops i, Post j (u j) W) → wpList P ops (stepQ fun a' W' => Ext W W' ∧ ∃ v, a' = T (updN u i v) ∧ Post i v W') [o] (T u) W)
    (done : ∀ u W, Ext w0 W → (∀ j, j < n → Post j (u j) W) → wpList P ops Q (ops.toList.drop n) (T u) W) :
    ∀ (f : Nat) (listed : Array Bool) (u : Nat → Value) (W : World), Ext w0 W → listed.size = ops.size → cntF listed.toList = f →
      (∀ j, j < n → listed.getD j false = true → Post j (u j) W) → (∀ j, n ≤ j → j < ops.size → listed.getD j true = false) → wpAny P md ops Q f listed (T u) W := fun f => by
  have hone : ∀ i, i < ops.size → i < n ∨ (i = n ∧ ops.size = n + 1 ∧ ∀ j, j < n → j ∈ depsL md ops n) := fun i hi => by
    have := (List.all_eq_true.1 hlast) i (List.mem_range.2 hi)
    simp only [Bool.or_eq_true, decide_eq_true_eq, Bool.and_eq_true, List.all_eq_true, List.mem_range] at this
    rcases this with h | ⟨⟨h1, h2⟩, h3⟩
    · exact .inl h
    · exact .inr ⟨h1, h2, fun j hj => by simpa using h3 j hj⟩
  induction f with
  | zero =>
    intro listed u W hx hs hc hp hn
    have hall : ∀ i, i < ops.size → listed.getD i true = true := fun i hi => by
      cases h : listed.getD i true with
      | true => rfl
      | false => exact (cntF_zero _ hc i (getD_false_iff.1 h)).elim
    have hle : ops.size ≤ n := by
      rcases Nat.lt_or_ge n ops.size with h | h
      · have h1 := hn n (Nat.le_refl _) h
        rw [hall n h] at h1
        cases h1
      · exact h
    refine ⟨ready_none hall, ?_⟩
    have hd := done u W hx (fun j hj => hp j hj (by
      have := hall j (by omega)
      rw [Array.getD_eq_getD_getElem?, Array.getElem?_eq_getElem (by omega)] at this ⊢
      exact this))
    rw [List.drop_of_length_le (by simpa using hle)] at hd
    exact hd
  | succ f ih =>
    intro listed u W hx hs hc hp hn
    refine ⟨fun hr => ?_, fun i hi => ?_⟩
    · obtain ⟨i, h⟩ := cntF_pos _ (by rw [hc]; exact Nat.succ_ne_zero f)
      exact absurd hr (ready_some hs hback i (getD_false_iff.2 h))
    · obtain ⟨hun, o, ho, hdeps⟩ := mem_ready.1 hi
      have hi' := (Array.getElem?_eq_some_iff.1 ho).1
      have hdl : ∀ j ∈ depsL md ops i, listed.getD j false = true := fun j hj => by
        unfold depsL at hj
        rw [ho] at hj
        obtain ⟨e, he, rfl⟩ := List.mem_map.1 hj
        obtain ⟨he1, he2⟩ := List.mem_filter.1 he
        exact hdeps e (by simpa using he1) he2
      have hdlt : ∀ j ∈ depsL md ops i, j < i := fun j hj => by
        have := (List.all_eq_true.1 hback) i (List.mem_range.2 hi')
        simpa using (List.all_eq_true.1 this) _ hj
      rcases hone i hi' with hlt | ⟨rfl, hsz, hall⟩
      · refine wpOp_of_list ho ?_ (step i o hlt ho u W hx (fun j hj => hp j (by have := hdlt j hj; omega) (hdl j hj)))
        rintro a' W' ⟨hx', v, rfl, hv⟩
        refine ih (listed.setIfInBounds i true) (updN u i v) W' (hx.trans hx') (by simpa using hs) ?_ (fun j hj hl => ?_) (fun j hj hj2 => ?_)
        · rw [Array.toList_setIfInBounds]
          have := cntF_set listed.toList i (getD_false_iff.1 hun)
          omega
        · unfold updN
          by_cases hji : j = i
          · rw [if_pos hji, hji]; exact hv
          · rw [if_neg hji]
            rw [getD_set_ne false (fun e => hji e.symm)] at hl
            exact stable j _ W W' hx' (hp j hj hl)
        · rw [getD_set_ne true (by omega)]
          exact hn j hj hj2
      · have hd := done u W hx (fun j hj => hp j hj (hdl j (hall j hj)))
        have hdrop : ops.toList.drop i = [o] := by
          rw [List.drop_eq_getElem_cons (by simpa using hi'), List.drop_of_length_le (by simp; omega)]
          have := (Array.getElem?_eq_some_iff.1 ho).2
          simpa using this
        rw [hdrop] at hd
        refine wpOp_of_last ho (fun a' W' hq => ?_) hd
        have hr : Region.ready md ops (listed.setIfInBounds i true) = [] := ready_none fun j hj => by
          rcases Nat.lt_or_ge j i with h | h
          · rw [getD_set_ne true (by omega)]
            have := hdl j (hall j h)
            rw [Array.getD_eq_getD_getElem?, Array.getElem?_eq_getElem (by omega)] at this ⊢
            exact this
          · have : j = i := by omega
            subst this
            simp [hs, hj]
        cases f with
        | zero => exact ⟨hr, hq⟩
        | succ f => exact ⟨fun _ => hq, by rw [hr]; simp⟩

/-- The beginning. -/
theorem wp_region_inv {id : Nat} {a : Act} {w : World} (n : Nat) (T : (Nat → Value) → Act) (Post : Nat → Value → World → Prop) (u0 : Nat → Value) (hT : a = T u0) (hm : P.follows .mixedOrders = true) (hn0 : n ≤ ops.size) (stable : ∀ i v W W', Ext W W' → Post i v W → Post i v W')
    (hback : (List.range ops.size).all (fun i => (depsL .any ops i).all (decide <| · < i)) = true)
    (hlast : (List.range ops.size).all (fun i => decide (i < n) || (decide (i = n) && decide (ops.size = n + 1) && (List.range n).all fun j => (depsL .any ops n).contains j)) = true)
    (step : ∀ i o, i < n → ops[i]? = some o → ∀ u W, Ext w W → (∀ j ∈ depsL .any ops i, Post j (u j) W) → wpList P ops (stepQ fun a' W' => Ext W W' ∧ ∃ v, a' = T (updN u i v) ∧ Post i v W') [o] (T u) W)
    (done : ∀ u W, Ext w W → (∀ j, j < n → Post j (u j) W) → wpList P ops Q (ops.toList.drop n) (T u) W) : (Code.region id ops true).wp P Q a w := by
  refine wp_region_any hm ?_
  rw [hT]
  refine wpAny_inv (w0 := w) n hn0 T Post stable hback hlast step done ops.size _ u0 _ (Ext.refl w).drew (by simp) ?_ (fun j _ hl => ?_) (fun j _ hj => ?_)
  · rw [Array.toList_replicate]
    unfold cntF
    rw [List.filter_replicate]
    simp
  · rw [getD_replicate_false] at hl
    cases hl
  · exact getD_in (by simpa using hj) (getD_replicate_false _ _)

end
end Go.Proofs.YtgfknlkpdiejgaaGreatDoor

namespace Go.Proofs.YtgfknlkpdiejgaaGreatDoor
open Go Go.RowKit

theorem stepQ_mk {K : Act → World → Prop} {a : Act} {w : World} (h : K a w) : stepQ K .normal a w := h
inductive Tg where
  | set (p : Nat → Bool)
  | sl (ps : List (Nat → Bool))
  | one (v : Value)
def Tg.ok : Tg → Value → World → Prop
  | .set p, v, _ => v = .agg #[.int .u64 (wd p 0 : Int), .int .u64 (wd p 1 : Int), .int .u64 (wd p 2 : Int), .int .u64 (wd p 3 : Int)]
  | .sl ps, v, W => RdS W v ps
  | .one x, v, _ => v = x
def postL (tg : List Tg) (i : Nat) (v : Value) (W : World) : Prop := match tg[i]? with | some t => t.ok v W | none => True
theorem postL_ext (tg : List Tg) (i : Nat) (v : Value) (W W' : World) (hx : Ext W W') (h : postL tg i v W) : postL tg i v W' := by
  unfold postL at *
  cases e : tg[i]? with
  | none => trivial
  | some t =>
    rw [e] at h
    cases t with
    | set p => exact h
    | sl ps => exact RdS.ext h hx
    | one x => exact h

theorem get_set {tg : List Tg} {i : Nat} {v : Value} {W : World} {p : Nat → Bool} (h : tg[i]? = some (.set p)) (hp : postL tg i v W) : v = .agg #[.int .u64 (wd p 0 : Int), .int .u64 (wd p 1 : Int), .int .u64 (wd p 2 : Int), .int .u64 (wd p 3 : Int)] := by
  unfold postL at hp; rw [h] at hp; exact hp
theorem get_sl {tg : List Tg} {i : Nat} {v : Value} {W : World} {ps : List (Nat → Bool)} (h : tg[i]? = some (.sl ps)) (hp : postL tg i v W) : RdS W v ps := by
  unfold postL at hp; rw [h] at hp; exact hp
theorem get_one {tg : List Tg} {i : Nat} {v x : Value} {W : World} (h : tg[i]? = some (.one x)) (hp : postL tg i v W) : v = x := by
  unfold postL at hp; rw [h] at hp; exact hp
theorem put_set {tg : List Tg} {i : Nat} {W : World} {p : Nat → Bool} (h : tg[i]? = some (.set p)) : postL tg i (.agg #[.int .u64 (wd p 0 : Int), .int .u64 (wd p 1 : Int), .int .u64 (wd p 2 : Int), .int .u64 (wd p 3 : Int)]) W := by
  unfold postL; rw [h]; rfl
theorem put_sl {tg : List Tg} {i : Nat} {v : Value} {W : World} {ps : List (Nat → Bool)} (h : tg[i]? = some (.sl ps)) (hp : RdS W v ps) : postL tg i v W := by
  unfold postL; rw [h]; exact hp
theorem put_one {tg : List Tg} {i : Nat} {x : Value} {W : World} (h : tg[i]? = some (.one x)) : postL tg i x W := by
  unfold postL; rw [h]; rfl

def AllS (p : Nat → Oper → Prop) : Nat → List Oper → Prop
  | _, [] => True
  | k, o :: l => p k o ∧ AllS p (k + 1) l
theorem AllS.get {p : Nat → Oper → Prop} : ∀ (l : List Oper) (k : Nat), AllS p k l → ∀ j o, l[j]? = some o → p (k + j) o
  | [], _, _, _, _, h => by cases h
  | o' :: l, k, hp, 0, o, h => by
    simp only [List.getElem?_cons_zero, Option.some.injEq] at h
    subst h
    exact hp.1
  | o' :: l, k, hp, j + 1, o, h => by
    have := AllS.get l (k + 1) hp.2 j o (by simpa using h)
    rw [show k + (j + 1) = k + 1 + j by omega]
    exact this
def spliceT (l : List Value) (k n : Nat) (u : Nat → Value) : Array Value := (l.take k ++ ((List.range n).map u ++ l.drop (k + n))).toArray
theorem splice_self (l : List Value) (k n : Nat) (h : k + n ≤ l.length) : l.toArray = spliceT l k n (fun i => l.getD (k + i) undef) := by
  unfold spliceT
  congr 1
  refine List.ext_getElem? fun j => ?_
  rcases Nat.lt_or_ge j k with h1 | h1
  · rw [List.getElem?_append_left (by rw [List.length_take]; omega), List.getElem?_take, if_pos h1]
  · rw [List.getElem?_append_right (by rw [List.length_take]; omega), List.length_take, Nat.min_eq_left (by omega)]
    rcases Nat.lt_or_ge (j - k) n with h2 | h2
    · rw [List.getElem?_append_left (by simpa using h2), List.getElem?_map, List.getElem?_range h2]
      simp only [Option.map_some]
      rw [show k + (j - k) = j by omega, List.getD_eq_getElem?_getD, List.getElem?_eq_getElem (show j < l.length by omega)]
      rfl
    · rw [List.getElem?_append_right (by simpa using h2), List.getElem?_drop]
      congr 1
      simp
      omega
theorem mem_of {l : List Nat} {j : Nat} (h : l.contains j = true) : j ∈ l := by simpa using h

theorem wp_region_tags {P : Program} {Q : Exit → Act → World → Prop} {id : Nat} {l : List Oper} {tm : List Value} {ds : List Deferred} {w : World} (k n : Nat) (tg : List Tg) (hm : P.follows .mixedOrders = true) (hn0 : decide (n ≤ l.toArray.size) = true) (hk : decide (k + n ≤ tm.length) = true)
    (hback : (List.range l.toArray.size).all (fun i => (depsL .any l.toArray i).all (decide <| · < i)) = true)
    (hlast : (List.range l.toArray.size).all (fun i => decide (i < n) || (decide (i = n) && decide (l.toArray.size = n + 1) && (List.range n).all fun j => (depsL .any l.toArray n).contains j)) = true)
    (h : ∀ T : (Nat → Value) → Act, (∀ u, T u = { tmps := spliceT tm k n u, defers := ds }) →
      AllS (fun i o => ∀ u W, Ext w W → (∀ j ∈ depsL .any l.toArray i, postL tg j (u j) W) → wpList P l.toArray (stepQ fun a' W' => Ext W W' ∧ ∃ v, a' = T (updN u i v) ∧ postL tg i v W') [o] (T u) W) 0 (l.take n) ∧
      ∀ u W, Ext w W → (∀ j, j < n → postL tg j (u j) W) → wpList P l.toArray Q (l.drop n) (T u) W) : (Code.region id l.toArray true).wp P Q { tmps := tm.toArray, defers := ds } w := by
  obtain ⟨h1, h2⟩ := h (fun u => { tmps := spliceT tm k n u, defers := ds }) (fun _ => rfl)
  refine wp_region_inv n (fun u => { tmps := spliceT tm k n u, defers := ds }) (postL tg) (fun i => tm.getD (k + i) undef) (by rw [splice_self tm k n (of_decide_eq_true hk)]) hm (of_decide_eq_true hn0) (postL_ext tg) hback hlast (fun i o hi ho => ?_) (fun u W hx hp => h2 u W hx hp)
  have := AllS.get _ 0 h1 i o (by rw [List.getElem?_take, if_pos hi]; simpa using ho)
  rw [Nat.zero_add] at this
  exact this

/-- A row of two sets, just made. -/
theorem rds_two (W : World) (p q : Nat → Bool) (t : TypeId) (c : Nat) : RdS (W.alloc (.cells #[.int .u64 (wd p 0 : Int), .int .u64 (wd p 1 : Int), .int .u64 (wd p 2 : Int), .int .u64 (wd p 3 : Int), .int .u64 (wd q 0 : Int), .int .u64 (wd q 1 : Int), .int .u64 (wd q 2 : Int), .int .u64 (wd q 3 : Int)] t)) (.slice (some ⟨W.heap.size, 0, none⟩) 2 c) [p, q] := by
  have hB := Blk.new W t #[.int .u64 (wd p 0 : Int), .int .u64 (wd p 1 : Int), .int .u64 (wd p 2 : Int), .int .u64 (wd p 3 : Int), .int .u64 (wd q 0 : Int), .int .u64 (wd q 1 : Int), .int .u64 (wd q 2 : Int), .int .u64 (wd q 3 : Int)]
  refine ⟨_, _, rfl, fun j hj => ⟨W.heap.size, 0, rfl, fun i hi => ?_⟩⟩
  rw [hB.cell]
  have hj' : j = 0 ∨ j = 1 := by simp at hj; omega
  have hi' : i = 0 ∨ i = 1 ∨ i = 2 ∨ i = 3 := by omega
  rcases hj' with rfl | rfl <;> rcases hi' with rfl | rfl | rfl | rfl <;> rfl
theorem rds_three (W : World) (p q r : Nat → Bool) (t : TypeId) (c : Nat) : RdS (W.alloc (.cells #[.int .u64 (wd p 0 : Int), .int .u64 (wd p 1 : Int), .int .u64 (wd p 2 : Int), .int .u64 (wd p 3 : Int), .int .u64 (wd q 0 : Int), .int .u64 (wd q 1 : Int), .int .u64 (wd q 2 : Int), .int .u64 (wd q 3 : Int), .int .u64 (wd r 0 : Int), .int .u64 (wd r 1 : Int), .int .u64 (wd r 2 : Int), .int .u64 (wd r 3 : Int)] t)) (.slice (some ⟨W.heap.size, 0, none⟩) 3 c) [p, q, r] := by
  have hB := Blk.new W t #[.int .u64 (wd p 0 : Int), .int .u64 (wd p 1 : Int), .int .u64 (wd p 2 : Int), .int .u64 (wd p 3 : Int), .int .u64 (wd q 0 : Int), .int .u64 (wd q 1 : Int), .int .u64 (wd q 2 : Int), .int .u64 (wd q 3 : Int), .int .u64 (wd r 0 : Int), .int .u64 (wd r 1 : Int), .int .u64 (wd r 2 : Int), .int .u64 (wd r 3 : Int)]
  refine ⟨_, _, rfl, fun j hj => ⟨W.heap.size, 0, rfl, fun i hi => ?_⟩⟩
  rw [hB.cell]
  have hj' : j = 0 ∨ j = 1 ∨ j = 2 := by simp at hj; omega
  have hi' : i = 0 ∨ i = 1 ∨ i = 2 ∨ i = 3 := by omega
  rcases hj' with rfl | rfl | rfl <;> rcases hi' with rfl | rfl | rfl | rfl <;> rfl

end Go.Proofs.YtgfknlkpdiejgaaGreatDoor
