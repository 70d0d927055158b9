/- trawlref15.repeat as a contract. Condition: the trees lie in memory. -/
import Derived.Test.YtkcgbdoplhgbmaaDoorNwR
namespace Go.Proofs.YtkcgbdoplhgbmaaDoor
open Go Go.RowKit

theorem ndB_one {B : Nat} {W : World} {n : Nd} {sv : Value} {g : Nat} {t : TypeId} (h : NdB B W n sv) (hg : Blk W g t (nodeA n.h sv)) (hB : B ≤ g) (hd : Hd) (c : Nat) : NdB B W (.mk hd [n]) (.slice (some ⟨g, 0, none⟩) 1 c) := NdB.one h hg hB hd c
set_option maxRecDepth 100000 in
set_option maxHeartbeats 8000000 in
theorem rrepeat_any (h : Hd) (sv : Value) (x : Nd) (svx : Value) (w : World) (B : Nat) (hx : NdB B w x svx) (hB : B ≤ w.heap.size) :
    Calls Tryd.prog 113 #[nodeV h sv, nodeV x.h svx] w (RetFromB B w (repO h x)) := by
  have HNT := Lib.hid (fun W => ris_any x.h svx W)
  have HX := Lib.hid hx
  have HB := Lib.hid hB
  have HNB := Lib.hid (show nthB x = nthH x.h from rfl)
  have HR := Lib.hid (show repO h x = if h.max = 0 ∨ x.h.kind = 1 then .mk (hdV 1) [] else if nthB x = true ∨ x.h.kind = 3 ∨ x.h.kind = 4 then (if h.min = 0 then .mk (hdV 1) [] else x) else if (h.min = 1 ∧ h.max = 1) ∨ (x.h.kind = 8 ∧ x.h.min = 0 ∧ x.h.max = -1) then x else .mk ⟨8, noS, 0, h.min, h.max, false⟩ [x] from rfl)
  have hslx := hx.ok.sl
  rw [HNB.out] at HR
  clear hx hB HNB
  generalize repO h x = res at *
  go_enter Tryd.func113, Tryd.ntmps113
  go_upto_region 1 with (first
    | (refine wpl_boxNd rfl _ rfl h _ rfl ?_; intro b2 w1 hb2 hx1 e2 s2)
    | (refine wpl_boxNd rfl _ rfl x.h _ rfl ?_; intro b3 w2 hb3 hx2 e3 s3)
    | (refine wpl_allocNd rfl rfl ?_; intro z w3 hz hx3 ez sz))
  have hw3 : Ext w w3 := (hx1.trans hx2).trans hx3
  replace hb2 := hb2.ext (hx2.trans hx3)
  replace hb3 := hb3.ext hx3
  have hwz : w.heap.size ≤ z := by have := hx1.size; have := hx2.size; omega
  have t4 : w3.cell? ⟨b2, 7, none⟩ = some (.int .i64 h.min) := hb2.cell 7
  have t5 : w3.cell? ⟨b2, 8, none⟩ = some (.int .i64 h.max) := hb2.cell 8
  have x0 : w3.cell? ⟨b3, 0, none⟩ = some (.int .i64 x.h.kind) := hb3.cell 0
  have x4 : w3.cell? ⟨b3, 7, none⟩ = some (.int .i64 x.h.min) := hb3.cell 7
  have x5 : w3.cell? ⟨b3, 8, none⟩ = some (.int .i64 x.h.max) := hb3.cell 8
  clear hb2 hx1 hx2 hx3 e2 s2 e3 s3 ez
  have HXH := Lib.hid (show x.h = x.h from rfl)
  generalize hmx : h.max = mx at *
  generalize hmn : h.min = mn at *
  generalize hkx : x.h.kind = kx at *
  generalize hxmn : x.h.min = xmn at *
  generalize hxmx : x.h.max = xmx at *
  generalize hnt : nthH x.h = nt at *
  clear HXH hmx hmn hkx hxmn hxmx hnt
  by_cases c1 : mx = 0 ∨ kx = 1
  · have HE := Lib.hid (HR.out.trans (if_pos c1))
    clear HR HNT HX
    rcases (show mx = 0 ∨ (mx ≠ 0 ∧ kx = 1) by omega) with rfl | ⟨c2, rfl⟩
    case' inr => have n1 : (mx == 0) = false := by rw [beq_eq_false_iff_ne]; exact c2
    all_goals
      clear c1
      go_wp2_with (refine wpl_storeNd rfl _ _ rfl rfl z (hdV 1) _ (.slice none 0 0) _ rfl (node_lit _ _ _ _ _ _) (isSl_mk _ _ _) hz ?_; intro w8 hz8 hk8)
      exact ret_nd rfl rfl rfl hz8 ⟨_, by rw [HE.out]; rfl, by rw [HE.out]; exact NdB.nil _ _ _ _ _, hw3.keep1 hk8 hwz⟩
  have HR2 := Lib.hid (HR.out.trans (if_neg c1))
  have n1 : (mx == 0) = false := by rw [beq_eq_false_iff_ne]; omega
  have n2 : (kx == 1) = false := by rw [beq_eq_false_iff_ne]; omega
  clear HR c1
  go_upto_region 3 with fail
  go_cut [25] (fun v wx => v = .bool (nt || decide (kx = 3) || decide (kx = 4)) ∧ Ext w3 wx)
  case first =>
    clear HR2 HX
    rcases (show nt = true ∨ (nt = false ∧ kx = 3) ∨ (nt = false ∧ kx ≠ 3 ∧ kx = 4) ∨ (nt = false ∧ kx ≠ 3 ∧ kx ≠ 4) by cases nt <;> simp <;> omega) with rfl | ⟨rfl, rfl⟩ | ⟨rfl, _, rfl⟩ | ⟨rfl, q3, q4⟩
    case' inr.inr.inr =>
      have n3 : (kx == 3) = false := by rw [beq_eq_false_iff_ne]; exact q3
      have n4 : (kx == 4) = false := by rw [beq_eq_false_iff_ne]; exact q4
      have QB := Lib.hid (show (false || decide (kx = 3) || decide (kx = 4)) = false by simp [q3, q4])
      clear q3 q4
    all_goals
      go_wp2_with (first
        | (refine wpl_loadNd rfl _ rfl b3 0 x.h svx rfl hb3.nd ?_)
        | (go_at_call 127; refine (HNT.out _).mono ?_; rintro e w6 ⟨rfl, hx6⟩; have y0 := hx6.cell x0))
      go_meet
      case rel => first | exact ⟨by rw [QB.out], hx6⟩ | exact ⟨by simp, hx6⟩
  obtain ⟨rfl, hx6⟩ := hcut
  have hw6 := hw3.trans hx6
  replace t4 := hx6.cell t4
  replace t5 := hx6.cell t5
  replace x0 := hx6.cell x0
  replace x4 := hx6.cell x4
  replace x5 := hx6.cell x5
  replace hb3 := hb3.ext hx6
  replace hz := hz.ext hx6
  have hw6s := hw6.size
  have hz6 := hz.lt
  by_cases c2 : (nt || decide (kx = 3) || decide (kx = 4)) = true
  · have HR3 := Lib.hid (HR2.out.trans (if_pos (by simpa [or_assoc] using c2)))
    rw [c2]
    clear HR2 c2
    by_cases c3 : mn = 0
    · have HE := Lib.hid (HR3.out.trans (if_pos c3))
      subst c3
      clear HR3 HX
      go_wp2_with (refine wpl_storeNd rfl _ _ rfl rfl z (hdV 1) _ (.slice none 0 0) _ rfl (node_lit _ _ _ _ _ _) (isSl_mk _ _ _) hz ?_; intro w8 hz8 hk8)
      exact ret_nd rfl rfl rfl hz8 ⟨_, by rw [HE.out]; rfl, by rw [HE.out]; exact NdB.nil _ _ _ _ _, hw6.keep1 hk8 hwz⟩
    · have HE := Lib.hid (HR3.out.trans (if_neg c3))
      have n3 : (mn == 0) = false := by rw [beq_eq_false_iff_ne]; exact c3
      clear HR3 c3
      go_wp2_with (first
        | (refine wpl_loadNd rfl _ rfl b3 0 x.h svx rfl hb3.nd ?_)
        | (refine wpl_storeNd rfl _ _ rfl rfl z x.h _ svx _ rfl rfl hslx hz ?_; intro w8 hz8 hk8))
      exact ret_nd rfl rfl rfl hz8 ⟨svx, by rw [HE.out], by rw [HE.out]; exact HX.out.ext (hw6.keep1 hk8 hwz), hw6.keep1 hk8 hwz⟩
  have HR3 := Lib.hid (HR2.out.trans (if_neg (by simpa [or_assoc] using c2)))
  have c2f : (nt || decide (kx = 3) || decide (kx = 4)) = false := by simpa using c2
  rw [c2f]
  clear HR2 c2 c2f HNT
  by_cases c4 : (mn = 1 ∧ mx = 1) ∨ (kx = 8 ∧ xmn = 0 ∧ xmx = -1)
  · have HE := Lib.hid (HR3.out.trans (if_pos c4))
    clear HR3
    rcases (show (mn = 1 ∧ mx = 1) ∨ (mn ≠ 1 ∧ kx = 8 ∧ xmn = 0 ∧ xmx = -1) ∨ (mn = 1 ∧ mx ≠ 1 ∧ kx = 8 ∧ xmn = 0 ∧ xmx = -1) by omega) with ⟨rfl, rfl⟩ | ⟨q, rfl, rfl, rfl⟩ | ⟨rfl, q, rfl, rfl, rfl⟩
    case' inr.inl => have n3 : (mn == 1) = false := by rw [beq_eq_false_iff_ne]; exact q
    case' inr.inr => have n3 : (mx == 1) = false := by rw [beq_eq_false_iff_ne]; exact q
    all_goals
      clear c4
      go_wp2_with (first
        | (refine wpl_loadNd rfl _ rfl b3 0 x.h svx rfl hb3.nd ?_)
        | (refine wpl_storeNd rfl _ _ rfl rfl z x.h _ svx _ rfl rfl hslx hz ?_; intro w8 hz8 hk8))
      exact ret_nd rfl rfl rfl hz8 ⟨svx, by rw [HE.out], by rw [HE.out]; exact HX.out.ext (hw6.keep1 hk8 hwz), hw6.keep1 hk8 hwz⟩
  · have HE := Lib.hid (HR3.out.trans (if_neg c4))
    clear HR3
    have c5 : ¬ (mn = 1 ∧ mx = 1) := fun h => c4 (.inl h)
    have c6 : ¬ (kx = 8 ∧ xmn = 0 ∧ xmx = -1) := fun h => c4 (.inr h)
    clear c4
    have bn : ∀ {a b : Int}, a ≠ b → (a == b) = false := fun h => by rw [beq_eq_false_iff_ne]; exact h
    have hcs : ((mn == 1) = false ∧ (kx == 8) = false) ∨ ((mn == 1) = false ∧ kx = 8 ∧ (xmn == 0) = false) ∨ ((mn == 1) = false ∧ kx = 8 ∧ xmn = 0 ∧ (xmx == -1) = false) ∨
        (mn = 1 ∧ (mx == 1) = false ∧ (kx == 8) = false) ∨ (mn = 1 ∧ (mx == 1) = false ∧ kx = 8 ∧ (xmn == 0) = false) ∨ (mn = 1 ∧ (mx == 1) = false ∧ kx = 8 ∧ xmn = 0 ∧ (xmx == -1) = false) := by
      by_cases h1 : mn = 1
      · have h2 : mx ≠ 1 := fun h => c5 ⟨h1, h⟩
        by_cases h3 : kx = 8
        · by_cases h4 : xmn = 0
          · exact .inr (.inr (.inr (.inr (.inr ⟨h1, bn h2, h3, h4, bn (fun h => c6 ⟨h3, h4, h⟩)⟩))))
          · exact .inr (.inr (.inr (.inr (.inl ⟨h1, bn h2, h3, bn h4⟩))))
        · exact .inr (.inr (.inr (.inl ⟨h1, bn h2, bn h3⟩)))
      · by_cases h3 : kx = 8
        · by_cases h4 : xmn = 0
          · exact .inr (.inr (.inl ⟨bn h1, h3, h4, bn (fun h => c6 ⟨h3, h4, h⟩)⟩))
          · exact .inr (.inl ⟨bn h1, h3, bn h4⟩)
        · exact .inl ⟨bn h1, bn h3⟩
    clear c5 c6 bn
    rcases hcs with ⟨n3, n4⟩ | ⟨n3, rfl, n4⟩ | ⟨n3, rfl, rfl, n4⟩ | ⟨rfl, n3, n4⟩ | ⟨rfl, n3, rfl, n4⟩ | ⟨rfl, n3, rfl, rfl, n4⟩
    all_goals
      go_wp2_with (first
          | (refine wpl_loadNd rfl _ rfl b3 0 x.h svx rfl hb3.nd ?_)
          | (refine wpl_oneNd rfl _ rfl x.h svx rfl ?_; intro g7 w7 hb7 hx7 e7 s7)
          | (refine wpl_storeNd rfl _ _ rfl rfl z ⟨8, noS, 0, _, _, false⟩ _ (.slice (some ⟨g7, 0, none⟩) 1 1) _ rfl (node_lit _ _ _ _ _ _) (isSl_mk _ _ _) (hz.ext hx7) ?_; intro w8 hz8 hk8))
      exact ret_nd rfl rfl rfl hz8 ⟨_, by rw [HE.out]; rfl, by rw [HE.out]; exact ndB_one (HX.out.ext ((hw6.trans hx7).keep1 hk8 hwz)) (hb7.keep1 hk8 (by omega)) (by have := HB.out; omega) _ _, (hw6.trans hx7).keep1 hk8 hwz⟩

end Go.Proofs.YtkcgbdoplhgbmaaDoor
