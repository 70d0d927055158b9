/- rank.Check, rank.Spans, trawlnum.SameSpans as contracts. Condition: tree and parse lie in memory, the tree has few nodes; the error values lie where they lie. -/
import Derived.Test.YthddlhpndaffjaaDoorWalk
import Derived.Test.YthddlhpndaffjaaDoorCheck
namespace Go.Proofs.YthddlhpndaffjaaDoor
open Go Go.RowKit

section
variable {s : ByteArray} {c e : Int} {x : Value}
def checkN (s : ByteArray) (c e : Int) (n : Nd) (p : Ps) : Bool := decide (chkN n = 0) && parseN s.size (leafB s c e) p n

set_option maxRecDepth 100000 in
set_option maxHeartbeats 4000000 in
theorem rankCheck_any (n : Nd) (svn : Value) (p : Ps) (svp : Value) (w : World) (A : Nat → Addr) (m : Int) (hn : NdOk w n svn) (hp : PsOk w p svp) (hE : Err3 w A) (hm : m ≤ 1000000) (hfew : 0 ≤ leftN n m) (hps : smallP p) (hS : IsScene w x s (mkAt s c e s.size)) (hs : s.size ≤ 1000000) :
    Calls Tryd.prog 39 #[nodeV n.h svn, x, psV p.d svp] w fun r w' => r = .returned (.bool (checkN s c e n p)) ∧ Ext w w' := by
  have HC := Lib.hid (fun W (hW : Ext w W) => check_any n svn W A m (hn.ext hW) (hE.ext hW) hm hfew)
  have HP := Lib.hid (fun W (hW : Ext w W) (h0 : chkN n = 0) => parse_any hs p hps n svn svp W (hn.ext hW) (hp.ext hW) (chk_ok h0).1 (hS.ext hW))
  have HR := Lib.hid (show checkN s c e n p = (decide (chkN n = 0) && parseN s.size (leafB s c e) p n) from rfl)
  clear hn hp hE hm hfew hps hS
  generalize checkN s c e n p = res at *
  generalize parseN s.size (leafB s c e) p n = pr at *
  generalize n.h = h at *
  generalize p.d = d at *
  generalize chkN n = ck at *
  by_cases h0 : ck = 0
  · have HP2 := Lib.hid (fun W hW => HP.out W hW h0)
    have FIN := Lib.hid (show res = pr by rw [HR.out, decide_eq_true h0, Bool.true_and])
    have he : errR A ck = .nilIface := by rw [h0]; rfl
    rw [he] at HC
    clear HP HR h0 he
    go_enter Tryd.func39, Tryd.ntmps39
    go_wp2_with (first
      | (refine wpl_boxNd rfl _ rfl h _ rfl ?_; intro z w1 hb hx1 ex sx)
      | (refine wpl_boxPs rfl _ rfl d _ rfl ?_; intro y w2 hc hx2 ey sy)
      | (refine wpl_loadNd rfl _ rfl z 0 h _ rfl (hb.ext hx2).nd ?_)
      | (go_at_call 31; refine (HC.out _ (hx1.trans hx2)).mono ?_; rintro e w3 ⟨rfl, hx3⟩)
      | (refine wpl_loadNdG _ rfl rfl z 0 h _ rfl (hb.ext (hx2.trans hx3)).nd ?_)
      | (refine wpl_loadPsG _ rfl rfl y 0 d _ rfl (hc.ext hx3).ps ?_)
      | (go_at_call 66; refine (HP2.out _ ((hx1.trans hx2).trans hx3)).mono ?_; rintro e w4 ⟨rfl, hx4⟩))
    go_ret
    exact ⟨by rw [FIN.out]; rfl, ((hx1.trans hx2).trans hx3).trans hx4⟩
  · have FIN := Lib.hid (show res = false by rw [HR.out, decide_eq_false h0]; rfl)
    have he : errR A ck = errV (A (ck - 1)) := by unfold errR; rw [if_neg h0]
    rw [he] at HC
    unfold errV at HC
    clear HP HR h0 he
    go_enter Tryd.func39, Tryd.ntmps39
    go_wp2_with (first
      | (refine wpl_boxNd rfl _ rfl h _ rfl ?_; intro z w1 hb hx1 ex sx)
      | (refine wpl_boxPs rfl _ rfl d _ rfl ?_; intro y w2 hc hx2 ey sy)
      | (refine wpl_loadNd rfl _ rfl z 0 h _ rfl (hb.ext hx2).nd ?_)
      | (go_at_call 31; refine (HC.out _ (hx1.trans hx2)).mono ?_; rintro e w3 ⟨rfl, hx3⟩))
    go_ret
    exact ⟨by rw [FIN.out]; rfl, (hx1.trans hx2).trans hx3⟩

def nowhere : Int × Int := (-1, -1)
def spans0 (d : Pd) (g : Nat) : List (Int × Int) := (List.replicate (g + 1) (-1, -1)).set 0 (d.a, d.b)
def spansN (n : Nd) (p : Ps) (g : Nat) : List (Int × Int) := walkN p n (spans0 p.d g)
theorem spansN_len (n : Nd) (p : Ps) (g : Nat) : (spansN n p g).length = g + 1 := by unfold spansN spans0; rw [walkN_len]; simp
def okSp (s : ByteArray) (c e : Int) (n : Nd) (p : Ps) (g : Int) : Bool := decide (0 ≤ g) && decide (g ≤ 999) && checkN s c e n p
theorem info_spZ : (Tryd.prog.info? 74).map (fun i => (i.zero, i.size, i.bytes)) = some (some (.agg [Value.int .i64 0, Value.int .i64 0].toArray), 2, 16) := by kernel_rfl
/-- What rank.Spans answers. -/
def RetSp (w : World) (ok : Bool) (l : List (Int × Int)) (r : Ending) (w' : World) : Prop :=
  (ok = false ∧ r = .returned (.tuple #[.slice none 0 0, .bool false]) ∧ Ext w w') ∨ (ok = true ∧ ∃ g cp, r = .returned (.tuple #[.slice (some ⟨g, 0, none⟩) l.length cp, .bool true]) ∧ OwnSp w' w.heap.size (.slice (some ⟨g, 0, none⟩) l.length cp) l ∧ Ext w w')

theorem rep_set (k m : Nat) (hk : k < m) : (List.replicate k ((-1 : Int), (-1 : Int)) ++ List.replicate (m - k) (0, 0)).set k (-1, -1) = List.replicate (k + 1) (-1, -1) ++ List.replicate (m - (k + 1)) (0, 0) := by
  rw [List.set_append_right _ _ (by simp), List.length_replicate, Nat.sub_self, show m - k = (m - (k + 1)) + 1 by omega, List.replicate_succ, List.set_cons_zero, List.replicate_succ', List.append_assoc]
  rfl

set_option maxRecDepth 100000 in
set_option maxHeartbeats 4000000 in
theorem spansR_any (n : Nd) (svn : Value) (p : Ps) (svp : Value) (G : Int) (w : World) (A : Nat → Addr) (m : Int) (hn : NdOk w n svn) (hp : PsOk w p svp) (hE : Err3 w A) (hm : m ≤ 1000000) (hfew : 0 ≤ leftN n m) (hps : smallP p) (hS : IsScene w x s (mkAt s c e s.size)) (hs : s.size ≤ 1000000) :
    Calls Tryd.prog 41 #[nodeV n.h svn, x, psV p.d svp, .int .i64 G] w (RetSp w (okSp s c e n p G) (spansN n p G.toNat)) := by
  have HC := Lib.hid (fun W (hW : Ext w W) => rankCheck_any n svn p svp W A m (hn.ext hW) (hp.ext hW) (hE.ext hW) hm hfew hps (hS.ext hW) hs)
  have hsm := small_left n m hm hfew
  have HW := Lib.hid (fun (h0 : checkN s c e n p = true) (W : World) g nn cp l (hx : Ext w W) (hg : w.heap.size ≤ g) (hO : OwnSp W w.heap.size (.slice (some ⟨g, 0, none⟩) nn cp) l) => (by
    unfold checkN at h0
    rw [Bool.and_eq_true, decide_eq_true_eq] at h0
    exact walk_any p n svn svp w W w.heap.size g nn cp l hn hp (chk_ok h0.1).1 hsm hps h0.2 hx hg hO : Calls Tryd.prog 68 #[nodeV n.h svn, psV p.d svp, .slice (some ⟨g, 0, none⟩) nn cp] W fun r w' => r = .returned (.tuple #[]) ∧ OwnSp w' w.heap.size (.slice (some ⟨g, 0, none⟩) nn cp) (walkN p n l) ∧ Keeps (· = g) W w'))
  have HR := Lib.hid (show okSp s c e n p G = (decide (0 ≤ G) && decide (G ≤ 999) && checkN s c e n p) from rfl)
  have HF := Lib.hid (show spansN n p G.toNat = walkN p n (spans0 p.d G.toNat) from rfl)
  have HLn := Lib.hid (spansN_len n p G.toNat)
  clear hn hp hE hm hfew hps hS hsm
  generalize okSp s c e n p G = ok at *
  generalize spansN n p G.toNat = res at *
  generalize checkN s c e n p = ck at *
  generalize n.h = h at *
  generalize p.d = d at *
  go_enter Tryd.func41, Tryd.ntmps41
  go_upto_region 1 with (first
    | (refine wpl_boxNd rfl _ rfl h _ rfl ?_; intro z w1 hb hx1 ex sx)
    | (refine wpl_boxPs rfl _ rfl d _ rfl ?_; intro y w2 hc hx2 ey sy))
  have hx12 := hx1.trans hx2
  have hb2 := hb.ext hx2
  clear hb hx1 hx2 ex sx ey sy
  by_cases t1 : G < 0
  · have FIN := Lib.hid (show ok = false by rw [HR.out, decide_eq_false (by omega : ¬ 0 ≤ G)]; rfl)
    clear HR HF HC HW HLn
    go_wp2
    go_ret2
    exact .inl ⟨FIN.out, rfl, hx12⟩
  by_cases t2 : 999 < G
  · have FIN := Lib.hid (show ok = false by rw [HR.out, decide_eq_false (by omega : ¬ G ≤ 999)]; simp)
    clear HR HF HC HW HLn
    go_wp2
    go_ret2
    exact .inl ⟨FIN.out, rfl, hx12⟩
  have HR2 := Lib.hid (show ok = ck by rw [HR.out, decide_eq_true (by omega : 0 ≤ G), decide_eq_true (by omega : G ≤ 999)]; rfl)
  clear HR
  cases ck
  · clear HF HW HLn
    go_wp2_with (first
      | (refine wpl_loadNdG _ rfl rfl z 0 h _ rfl hb2.nd ?_)
      | (refine wpl_loadPsG _ rfl rfl y 0 d _ rfl hc.ps ?_)
      | (go_at_call 39; refine (HC.out _ hx12).mono ?_; rintro e w3 ⟨rfl, hx3⟩))
    go_ret2
    exact .inl ⟨HR2.out, rfl, hx12.trans hx3⟩
  obtain ⟨gn, rfl⟩ := Int.eq_ofNat_of_zero_le (show 0 ≤ G by omega)
  have HW2 := Lib.hid (HW.out rfl)
  rw [show ((gn : Int)).toNat = gn from Int.toNat_natCast gn] at HF HLn
  have q1 : IntKind.i64.wrap ((gn : Int) + 1) = ((gn + 1 : Nat) : Int) := by rw [IntKind.wrap_i64]; omega
  clear HW
  go_upto_region 4 with (first
    | (refine wpl_loadNdG _ rfl rfl z 0 h _ rfl hb2.nd ?_)
    | (refine wpl_loadPsG _ rfl rfl y 0 d _ rfl hc.ps ?_)
    | (go_at_call 39; refine (HC.out _ hx12).mono ?_; rintro e w3 ⟨rfl, hx3⟩)
    | (refine wpList_makeR rfl _ _ _ rfl w.heap.size 74 [.int .i64 0, .int .i64 0] 2 16 Tryd.underlying68 info_spZ rfl (by decide) (gn + 1) rfl rfl (by omega) (by omega) (hx12.trans hx3).size ?_; intro g w4 hO4 hx4 eg sg))
  have hg : w.heap.size ≤ g := by rw [← eg]; exact (hx12.trans hx3).size
  replace hx12 := (hx12.trans hx3).trans hx4
  replace hb2 := (hb2.ext hx3).ext hx4
  replace hc := (hc.ext hx3).ext hx4
  have hO : OwnSp w4 w.heap.size (.slice (some ⟨g, 0, none⟩) (gn + 1) (gn + 1)) (List.replicate 0 (-1, -1) ++ List.replicate (gn + 1 - 0) (0, 0)) := by
    have e1 : spR (List.replicate 0 (-1, -1) ++ List.replicate (gn + 1 - 0) (0, 0)) = List.replicate (gn + 1) [Value.int .i64 0, Value.int .i64 0] := by simp [spR, spC, List.map_replicate]
    unfold OwnSp
    rw [e1]
    exact hO4
  clear hx3 hx4 eg sg HC q1 hO4
  have HA := Lib.hid hb2.nd
  have HB := Lib.hid hc.ps
  have p0 : w4.cell? ⟨y, 0, none⟩ = some (.int .i64 d.a) := hc.cell 0
  have p1 : w4.cell? ⟨y, 1, none⟩ = some (.int .i64 d.b) := hc.cell 1
  have HZG := Lib.hid (own_ne hO hb2 (by decide))
  have HYG := Lib.hid (own_ne hO hc (by decide))
  clear hb2 hc
  have hk44 : Keeps (· = g) w4 w4 := Keeps.refl _ _
  go_wp2
  go_loopw [30] (fun i wr => ∃ (k : Nat), k ≤ gn + 1 ∧ i = .int .i64 k ∧ OwnSp wr w.heap.size (.slice (some ⟨g, 0, none⟩) (gn + 1) (gn + 1)) (List.replicate k (-1, -1) ++ List.replicate (gn + 1 - k) (0, 0)) ∧ Keeps (· = g) w4 wr) (fun i _ => gn + 1 - (intOf i).toNat)
  case atStart => exact ⟨0, Nat.zero_le _, rfl, hO, hk44⟩
  case round =>
    clear hk44 hO
    obtain ⟨k, hk, rfl, hO, hkr⟩ := hrel
    by_cases hlt : k < gn + 1
    · have HST := Lib.hid (rep_set k (gn + 1) hlt)
      have hll : k < (List.replicate k ((-1 : Int), (-1 : Int)) ++ List.replicate (gn + 1 - k) (0, 0)).length := by simp; omega
      have HLL := Lib.hid hll
      clear hll HF HLn HW2
      generalize (List.replicate k ((-1 : Int), (-1 : Int)) ++ List.replicate (gn + 1 - k) (0, 0)) = lk at *
      have d1 : (k : Int) < ((gn + 1 : Nat) : Int) := by omega
      go_wp2_with (refine wpl_setSp rfl _ _ rfl rfl w.heap.size g _ (gn + 1) lk k (-1, -1) rfl rfl hO HLL.out ?_; intro w6 hO6 hk6)
      go_roundw
      case rel => exact ⟨k + 1, by omega, by go_num, by rw [← HST.out]; exact hO6, hkr.trans hk6 (fun _ _ e => e)⟩
      case measure => simp [intOf]; omega
    · have hkk : k = gn + 1 := by omega
      have he : (List.replicate k ((-1 : Int), (-1 : Int)) ++ List.replicate (gn + 1 - k) (0, 0)) = List.replicate (gn + 1) (-1, -1) := by rw [hkk, Nat.sub_self]; simp
      rw [he] at hO
      replace p0 := hkr.cellb p0 HYG.out
      replace p1 := hkr.cellb p1 HYG.out
      have HAt := Lib.hid (HA.out.keeps hkr HZG.out)
      have HBt := Lib.hid (fun i (hi : i < 4) => (by
        have hs' : (psC d svp)[i]? = some (psC d svp)[i] := List.getElem?_eq_getElem (by simpa [psC] using hi)
        have h1 := HB.out i hi
        rw [hs'] at h1 ⊢
        exact hkr.cellb h1 HYG.out : wr.cell? ⟨y, 0 + i, none⟩ = (psC d svp)[i]?))
      have hxr := hx12.keep1 hkr hg
      have d1 : ¬ (k : Int) < ((gn + 1 : Nat) : Int) := by omega
      have HLr := Lib.hid (show 0 < (List.replicate (gn + 1) ((-1 : Int), (-1 : Int))).length by simp)
      have HSp := Lib.hid (show (List.replicate (gn + 1) ((-1 : Int), (-1 : Int))).set 0 (d.a, d.b) = spans0 d gn from rfl)
      clear he hkk hk hkr HA HB
      generalize List.replicate (gn + 1) ((-1 : Int), (-1 : Int)) = l0 at *
      generalize d.a = a at *
      generalize d.b = b at *
      go_upto_region 10 with (refine wpl_setSp rfl _ _ rfl rfl w.heap.size g _ (gn + 1) l0 0 (a, b) rfl rfl hO HLr.out ?_; intro w6 hO6 hk6)
      rw [HSp.out] at hO6
      have hx6 := hxr.keep1 hk6 hg
      have HA6 := Lib.hid (HAt.out.keeps hk6 HZG.out)
      have HB6 := Lib.hid (fun i (hi : i < 4) => (by
        have hs' : (psC d svp)[i]? = some (psC d svp)[i] := List.getElem?_eq_getElem (by simpa [psC] using hi)
        have h1 := HBt.out i hi
        rw [hs'] at h1 ⊢
        exact hk6.cellb h1 HYG.out : w6.cell? ⟨y, 0 + i, none⟩ = (psC d svp)[i]?))
      have HC := Lib.hid (HW2.out w6 g (gn + 1) (gn + 1) (spans0 d gn) hx6 hg hO6)
      rw [← HF.out] at HC
      have HRL := HLn.out
      clear hO hO6 hk6 HW2 HF HLr HSp HAt HBt hxr p0 p1 HLn
      have HRLh := Lib.hid HRL
      clear HRL
      go_wp2_with (first
        | (refine wpl_loadNd rfl _ rfl z 0 h _ rfl HA6.out ?_)
        | (refine wpl_loadPs rfl _ rfl y 0 d _ rfl HB6.out ?_)
        | (go_at_call 68; refine HC.out.mono ?_; rintro e w7 ⟨rfl, hO7, hk7⟩))
      go_ret2
      exact .inr ⟨HR2.out, g, gn + 1, by rw [HRLh.out]; rfl, by rw [HRLh.out]; exact hO7, hx6.keep1 hk7 hg⟩
end

end Go.Proofs.YthddlhpndaffjaaDoor
