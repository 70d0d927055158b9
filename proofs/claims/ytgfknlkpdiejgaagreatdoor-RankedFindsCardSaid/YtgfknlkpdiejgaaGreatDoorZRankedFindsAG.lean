/- How many nodes are left behind a tree. No program. The three error values of tree.Check as a walk meets them. No condition but that the row's listed variables hold what the row lists. tree.Check, expand.Expand, expand.Plain as contracts. Condition: the tree lies in memory, it has few nodes; the error values lie where they lie. trawlref04.Size and trawllaw22.long as contracts. Condition: the tree lies in memory. -/
import Derived.Test.YtgfknlkpdiejgaaGreatDoorZRankedFindsAE
import Derived.Test.YtgfknlkpdiejgaaGreatDoorErrB
import Derived.Test.YtgfknlkpdiejgaaGreatDoorZRankedFindsAF
import Derived.Test.YtgfknlkpdiejgaaGreatDoorZRankedFindsAC
import Derived.Test.YtgfknlkpdiejgaaGreatDoorZRankedFindsAA
namespace Go.Proofs.YtgfknlkpdiejgaaGreatDoor

mutual
theorem left_nodes : ∀ (n : Nd) (m : Int), nodesN n ≤ m → leftN n m = m - nodesN n
  | .mk h subs, m, hm => by
    rw [nodesN] at hm ⊢
    rw [leftN, leftL_nodes subs (m - 1) (by omega)]
    omega
theorem leftL_nodes : ∀ (l : List Nd) (m : Int), nodesL l ≤ m → leftL l m = m - nodesL l
  | [], m, _ => by rw [leftL, nodesL]; omega
  | n :: r, m, hm => by
    have h1 := nodesN_pos n
    have h2 := nodesL_pos r
    rw [nodesL] at hm ⊢
    rw [leftL, if_pos (by omega), left_nodes n m (by omega), leftL_nodes r _ (by omega)]
    omega
end
theorem left_few {n : Nd} {m : Int} (h : nodesN n ≤ m) : 0 ≤ leftN n m := by rw [left_nodes n m h]; omega


end Go.Proofs.YtgfknlkpdiejgaaGreatDoor

namespace Go.Proofs.YtgfknlkpdiejgaaGreatDoor
open Go.RowKit Go.Extern.Stop Go.Stop Go.Extern

/-- Where ErrTooBig, ErrTree, ErrDeep lie. -/
structure Err3 (w : World) (A : Nat → Addr) : Prop where
  v9 : w.cell? ⟨9, 0, none⟩ = some (errV (A 9))
  v12 : w.cell? ⟨12, 0, none⟩ = some (errV (A 12))
  v13 : w.cell? ⟨13, 0, none⟩ = some (errV (A 13))
theorem Err3.ext {w w' : World} {A : Nat → Addr} (h : Err3 w A) (hx : Ext w w') : Err3 w' A := ⟨hx.cell h.v9, hx.cell h.v12, hx.cell h.v13⟩
def err3List : List (String × Nat × List UInt8) := [9, 12, 13].map fun i => (errNames.getD i "", if i = 9 then 9 else if i = 12 then 12 else 13, errTexts.getD i [])
def err3Laid : List (String × DataW Unit) := err3List.map fun x => (x.1, errD x.2.2)
theorem errs3_at {W : World} (h : laidMet Tryz.prog err3Laid W) : ∃ A, Err3 W A := by
  obtain ⟨ps, hv, hnd, hrows⟩ := h
  obtain ⟨al, hl, hi, _, hn⟩ := laid_many err3List ps (by
    have hall : err3List.all (fun x => decide (Tryz.prog.globalNamed x.1 = some x.2.1 ∧ (Tryz.prog.globals[x.2.1]?).map (·.type) = some 38)) = true := by kernel_rfl
    intro x hx
    exact of_decide_eq_true (List.all_eq_true.1 hall x hx)) hv hnd hrows
  have hl3 : al.length = 3 := by rw [hl]; rfl
  obtain ⟨a0, a1, a2, rfl⟩ : ∃ a0 a1 a2, al = [a0, a1, a2] := by
    match al, hl3 with
    | [a0, a1, a2], _ => exact ⟨a0, a1, a2, rfl⟩
  refine ⟨fun i => if i = 9 then a0 else if i = 12 then a1 else a2, (hi 0 _ _ rfl rfl).1, (hi 1 _ _ rfl rfl).1, (hi 2 _ _ rfl rfl).1⟩

end Go.Proofs.YtgfknlkpdiejgaaGreatDoor

namespace Go.Proofs.YtgfknlkpdiejgaaGreatDoor
open Go Go.RowKit

/-- The number of the error that Check answers; 0: none. -/
def chkN (n : Nd) : Nat := if formB n = false then 13 else if 200 < depthN n then 14 else if 2000 < sizeN n then 10 else 0
def errR (A : Nat → Addr) (k : Nat) : Value := if k = 0 then .nilIface else errV (A (k - 1))
theorem chk_ok {n : Nd} (h : chkN n = 0) : formB n = true ∧ depthN n ≤ 200 ∧ sizeN n ≤ 2000 := by
  unfold chkN at h
  cases hf : formB n
  · rw [if_pos hf] at h; cases h
  · rw [if_neg (by rw [hf]; decide)] at h
    split at h
    · cases h
    · split at h
      · cases h
      · exact ⟨rfl, by omega, by omega⟩

set_option maxRecDepth 100000 in
set_option maxHeartbeats 4000000 in
theorem check_any (n : Nd) (sv : Value) (w : World) (A : Nat → Addr) (m : Int) (hn : NdOk w n sv) (hE : Err3 w A) (hm : m ≤ 1000000) (hfew : 0 ≤ leftN n m) :
    Calls Tryz.prog 42 #[nodeV n.h sv] w fun r w' => r = .returned (errR A (chkN n)) ∧ Ext w w' := by
  have hsm := small_left n m hm hfew
  have H1 := Lib.hid (fun W (hW : Ext w W) => form_any n sv W (hn.ext hW) hsm)
  have H2 := Lib.hid (fun W (hW : Ext w W) => depth_any n sv W m (hn.ext hW) hm hfew)
  have H3 := Lib.hid (fun W (hW : Ext w W) (hf : formB n = true) => size_any n sv W (hn.ext hW) hsm hf)
  obtain ⟨v9, v12, v13⟩ := hE
  have HR := Lib.hid (show chkN n = if formB n = false then 13 else if 200 < depthN n then 14 else if 2000 < sizeN n then 10 else 0 from rfl)
  clear hn hm hfew hsm
  generalize chkN n = ck at *
  generalize depthN n = dn at *
  generalize sizeN n = sn at *
  generalize hf : formB n = fb at *
  clear hf
  generalize n.h = hd at *
  unfold errV at v9 v12 v13
  go_enter Tryz.func42, Tryz.ntmps42
  go_upto_region 1 with (refine wpl_boxNd rfl _ rfl hd _ rfl ?_; intro b w1 hb hx1 eb sb)
  cases fb
  · have HR2 := Lib.hid (HR.out.trans (if_pos rfl))
    clear HR H2 H3
    go_wp2_with (first
      | (refine wpl_loadNd rfl _ rfl b 0 hd _ rfl hb.nd ?_)
      | (go_at_call 68; refine (H1.out _ hx1).mono ?_; rintro e w2 ⟨rfl, hx2⟩; replace v12 := (hx1.trans hx2).cell v12))
    go_ret
    exact ⟨by rw [HR2.out]; rfl, hx1.trans hx2⟩
  have HR1 := Lib.hid (HR.out.trans (if_neg (by decide)))
  have H3' := Lib.hid (fun W hW => H3.out W hW rfl)
  clear HR H3
  by_cases hd1 : 200 < dn
  · have HR2 := Lib.hid (HR1.out.trans (if_pos hd1))
    clear HR1 H3'
    go_wp2_with (first
      | (refine wpl_loadNd rfl _ rfl b 0 hd _ rfl hb.nd ?_)
      | (go_at_call 68; refine (H1.out _ hx1).mono ?_; rintro e w2 ⟨rfl, hx2⟩)
      | (refine wpl_loadNd rfl _ rfl b 0 hd _ rfl (hb.ext hx2).nd ?_)
      | (go_at_call 69; refine (H2.out _ (hx1.trans hx2)).mono ?_; rintro e w3 ⟨rfl, hx3⟩; replace v13 := ((hx1.trans hx2).trans hx3).cell v13))
    go_ret
    exact ⟨by rw [HR2.out]; rfl, (hx1.trans hx2).trans hx3⟩
  have HR3 := Lib.hid (HR1.out.trans (if_neg hd1))
  clear HR1
  by_cases hd2 : 2000 < sn
  all_goals
    go_wp2_with (first
      | (refine wpl_loadNd rfl _ rfl b 0 hd _ rfl hb.nd ?_)
      | (go_at_call 68; refine (H1.out _ hx1).mono ?_; rintro e w2 ⟨rfl, hx2⟩)
      | (refine wpl_loadNd rfl _ rfl b 0 hd _ rfl (hb.ext hx2).nd ?_)
      | (go_at_call 69; refine (H2.out _ (hx1.trans hx2)).mono ?_; rintro e w3 ⟨rfl, hx3⟩)
      | (refine wpl_loadNd rfl _ rfl b 0 hd _ rfl (hb.ext (hx2.trans hx3)).nd ?_)
      | (go_at_call 70; refine (H3'.out _ ((hx1.trans hx2).trans hx3)).mono ?_; rintro e w4 ⟨rfl, hx4⟩; replace v9 := (((hx1.trans hx2).trans hx3).trans hx4).cell v9))
    go_ret
    exact ⟨by rw [HR3.out]; first | (rw [if_pos hd2]; rfl) | (rw [if_neg (by omega)]; rfl), ((hx1.trans hx2).trans hx3).trans hx4⟩

end Go.Proofs.YtgfknlkpdiejgaaGreatDoor

namespace Go.Proofs.YtgfknlkpdiejgaaGreatDoor
open Go Go.RowKit

def size04N (t : Nd) : Int := if formB t = true then sizeN t else 0
set_option maxRecDepth 100000 in
set_option maxHeartbeats 4000000 in
theorem rsize_any (t : Nd) (sv : Value) (w : World) (hn : NdOk w t sv) (hsm : smallN t) :
    Calls Tryz.prog 22 #[nodeV t.h sv] w fun r w' => r = .returned (.int .i64 (size04N t)) ∧ Ext w w' := by
  have H1 := Lib.hid (fun W (hW : Ext w W) => form04_any t sv W (NdOk.ext hW _ _ hn) hsm)
  have H2 := Lib.hid (fun W (hW : Ext w W) (hf : formB t = true) => size04_any t sv W (NdOk.ext hW _ _ hn) hsm hf)
  have HR : Hid (size04N t = if formB t = true then sizeN t else 0) := Lib.hid rfl
  clear hn hsm
  generalize size04N t = res at *
  generalize sizeN t = sn at *
  generalize hf : formB t = fb at *
  clear hf
  generalize t.h = h at *
  go_enter Tryz.func22, Tryz.ntmps22
  cases fb
  · have FIN : Hid (res = 0) := Lib.hid (by rw [HR.out, if_neg (by decide)])
    clear H2 HR
    go_wp2_with (first
      | (refine wpl_boxNd rfl _ rfl h _ rfl ?_; intro z w1 hb hx1 ez sz)
      | (refine wpl_loadNd rfl _ rfl z 0 h _ rfl hb.nd ?_)
      | (go_at_call 40; refine (H1.out _ hx1).mono ?_; rintro e w2 ⟨rfl, hx2⟩))
    go_ret
    exact ⟨by rw [FIN.out]; rfl, hx1.trans hx2⟩
  · have FIN : Hid (res = sn) := Lib.hid (by rw [HR.out, if_pos rfl])
    have H3 := Lib.hid (fun W hW => H2.out W hW rfl)
    clear H2 HR
    go_wp2_with (first
      | (refine wpl_boxNd rfl _ rfl h _ rfl ?_; intro z w1 hb hx1 ez sz)
      | (go_at_call 41; refine (H3.out _ (hx1.trans hx2)).mono ?_; rintro e w3 ⟨rfl, hx3⟩)
      | (refine wpl_loadNd rfl _ rfl z 0 h _ rfl (hb.ext hx2).nd ?_)
      | (go_at_call 40; refine (H1.out _ hx1).mono ?_; rintro e w2 ⟨rfl, hx2⟩)
      | (refine wpl_loadNd rfl _ rfl z 0 h _ rfl hb.nd ?_))
    go_ret
    exact ⟨by rw [FIN.out]; rfl, (hx1.trans hx2).trans hx3⟩

/-- What long tells. -/
def longB (lf n sz most : Int) : Bool := decide (lf < 0) || (decide (0 < n) && decide (n ≤ 2000) && (decide (150 < n) || decide (150 < sz) || decide (most < n * sz * sz)))
def longT (t : Nd) (s : ByteArray) (most : Int) : Bool := longB (leftN t 2500) (size04N t) s.size most
theorem long_ok {t : Nd} {s : ByteArray} {most : Int} (h : longT t s most = false) : 0 ≤ leftN t 2500 ∧ (chkN t = 0 → s.size ≤ 150) := by
  unfold longT longB at h
  simp only [Bool.or_eq_false_iff, decide_eq_false_iff_not, Bool.and_eq_false_iff] at h
  refine ⟨by omega, fun hc => ?_⟩
  obtain ⟨h3, _, h5⟩ := chk_ok hc
  have h6 := sizeN_range t h3
  have e : size04N t = sizeN t := by unfold size04N; rw [if_pos h3]
  have h7 := size_nodes t h3
  have h8 := nodesN_pos (expN t)
  rw [e] at h
  omega
set_option maxRecDepth 100000 in
set_option maxHeartbeats 8000000 in
theorem long_any (t : Nd) (sv : Value) (s : ByteArray) (c e most : Int) (w : World) (hn : NdOk w t sv) :
    Calls Tryz.prog 6 #[nodeV t.h sv, .agg #[.string s, .int .i64 c, .int .i64 e], .int .i64 most] w fun r w' => r = .returned (.bool (longT t s most)) ∧ Ext w w' := by
  have HF := Lib.hid (fun W (hW : Ext w W) => few_any t sv 2500 W (NdOk.ext hW _ _ hn) (by omega) (by omega))
  have HS := Lib.hid (fun (h : 0 ≤ leftN t 2500) W (hW : Ext w W) => rsize_any t sv W (NdOk.ext hW _ _ hn) (small_left t 2500 (by omega) h))
  have HOK : Hid (longT t s most = longB (leftN t 2500) (size04N t) s.size most) := Lib.hid rfl
  have HR : Hid (0 ≤ size04N t) := Lib.hid (by
    unfold size04N
    split
    · rename_i h3; have h6 := sizeN_range t h3; omega
    · omega)
  clear hn
  obtain ⟨lf, hlf⟩ : ∃ lf, lf = leftN t 2500 := ⟨_, rfl⟩
  rw [← hlf] at HF HS HOK
  clear hlf
  generalize longT t s most = res at *
  generalize size04N t = n at *
  generalize t.h = h at *
  go_enter Tryz.func6, Tryz.ntmps6
  go_upto_region 1 with (refine wpl_boxNd rfl _ rfl h _ rfl ?_; intro z w1 hb hx1 ez sz)
  have hV := Blk.new w1 29 #[.string s, .int .i64 c, .int .i64 e]
  have hx2 := hx1.alloc (.cells #[.string s, .int .i64 c, .int .i64 e] 29)
  replace hb := hb.ext ((Ext.refl w1).alloc (.cells #[.string s, .int .i64 c, .int .i64 e] 29))
  generalize w1.alloc (.cells #[.string s, .int .i64 c, .int .i64 e] 29) = w2 at *
  generalize w1.heap.size = u at *
  clear hx1 ez sz
  by_cases h1 : 0 ≤ lf
  case neg =>
    rw [decide_eq_false h1] at HF
    have FIN : Hid (res = true) := Lib.hid (by rw [HOK.out]; unfold longB; rw [decide_eq_true (by omega : lf < 0)]; rfl)
    clear HS h1 HOK
    go_wp2_with (first
      | (refine wpl_loadNd rfl _ rfl z 0 h _ rfl hb.nd ?_)
      | (go_at_call 21; refine (HF.out _ hx2).mono ?_; rintro e w3 ⟨rfl, hx3⟩))
    go_ret
    exact ⟨by rw [FIN.out]; rfl, hx2.trans hx3⟩
  rw [decide_eq_true h1] at HF
  have HS2 := Lib.hid (fun W hW => HS.out h1 W hW)
  have HOK2 : Hid (res = (decide (0 < n) && decide (n ≤ 2000) && (decide (150 < n) || decide ((150 : Int) < s.size) || decide (most < n * s.size * s.size)))) := Lib.hid (by rw [HOK.out]; unfold longB; rw [decide_eq_false (by omega : ¬ lf < 0), Bool.false_or])
  clear HS h1 HOK
  go_upto_region 4 with (first
    | (go_at_call 22; refine (HS2.out _ (hx2.trans hx3)).mono ?_; rintro e w4 ⟨rfl, hx4⟩)
    | (refine wpl_loadNd rfl _ rfl z 0 h _ rfl (hb.ext hx3).nd ?_)
    | (go_at_call 21; refine (HF.out _ hx2).mono ?_; rintro e w3 ⟨rfl, hx3⟩)
    | (refine wpl_loadNd rfl _ rfl z 0 h _ rfl hb.nd ?_))
  have HX := Lib.hid ((hx2.trans hx3).trans hx4)
  have v0 := ((hV.ext hx3).ext hx4).cell 0
  simp at v0
  have hn0 := HR.out
  clear hb hV hx2 hx3 hx4 HF HS2 HR
  by_cases c1 : 0 < n
  case neg =>
    have FIN : Hid (res = false) := Lib.hid (by rw [HOK2.out, decide_eq_false c1]; rfl)
    clear HOK2
    go_wp2
    go_ret
    exact ⟨by rw [FIN.out]; rfl, HX.out⟩
  by_cases c2 : n ≤ 2000
  case neg =>
    have FIN : Hid (res = false) := Lib.hid (by rw [HOK2.out, decide_eq_true c1, decide_eq_false c2]; rfl)
    clear HOK2
    go_wp2
    go_ret
    exact ⟨by rw [FIN.out]; rfl, HX.out⟩
  by_cases c3 : 150 < n
  · have FIN : Hid (res = true) := Lib.hid (by rw [HOK2.out, decide_eq_true c1, decide_eq_true c2, decide_eq_true c3]; rfl)
    clear HOK2
    go_wp2
    go_ret
    exact ⟨by rw [FIN.out]; rfl, HX.out⟩
  by_cases c4 : (150 : Int) < s.size
  · have FIN : Hid (res = true) := Lib.hid (by rw [HOK2.out, decide_eq_true c1, decide_eq_true c2, decide_eq_true c4, Bool.or_true]; rfl)
    clear HOK2
    go_wp2
    go_ret
    exact ⟨by rw [FIN.out]; rfl, HX.out⟩
  have HOK3 : Hid (res = decide (most < n * s.size * s.size)) := Lib.hid (by rw [HOK2.out, decide_eq_true c1, decide_eq_true c2, decide_eq_false c3, decide_eq_false c4]; simp)
  clear HOK2
  have c5 : s.size ≤ 150 := by omega
  have hnn : ∃ k : Nat, n = k := Int.eq_ofNat_of_zero_le hn0
  obtain ⟨k, rfl⟩ := hnn
  have m1 : k * s.size ≤ 150 * 150 := Nat.mul_le_mul (by omega) c5
  have m2 : k * s.size * s.size ≤ 150 * 150 * 150 := Nat.mul_le_mul m1 c5
  have q1 : IntKind.i64.wrap ((k : Int) * (s.size : Int)) = (k : Int) * (s.size : Int) := by
    have : (k : Int) * (s.size : Int) = ((k * s.size : Nat) : Int) := by simp
    rw [IntKind.wrap_i64, this]; omega
  have q2 : IntKind.i64.wrap ((k : Int) * (s.size : Int) * (s.size : Int)) = (k : Int) * (s.size : Int) * (s.size : Int) := by
    have : (k : Int) * (s.size : Int) * (s.size : Int) = ((k * s.size * s.size : Nat) : Int) := by simp
    rw [IntKind.wrap_i64, this]; omega
  clear m1 m2 hn0
  by_cases c6 : most < (k : Int) * (s.size : Int) * (s.size : Int)
  · have FIN : Hid (res = true) := Lib.hid (by rw [HOK3.out, decide_eq_true c6])
    clear HOK3
    go_wp2
    go_ret
    exact ⟨by rw [FIN.out]; rfl, HX.out⟩
  · have FIN : Hid (res = false) := Lib.hid (by rw [HOK3.out, decide_eq_false c6])
    clear HOK3
    go_wp2
    go_ret
    exact ⟨by rw [FIN.out]; rfl, HX.out⟩

end Go.Proofs.YtgfknlkpdiejgaaGreatDoor
