/- tree.Check, expand.Expand, expand.Plain as contracts. Condition: the tree lies in memory, it has few nodes; the error values lie where they lie. rank.Check, rank.Spans, trawlnum.SameSpans as contracts. Condition: tree and parse lie in memory, the tree has few nodes; the error values lie where they lie. Slices of ints that read as a list, and trawlnum.SameInts as a contract. Slices of at most 10^12 elements. trawlnum.SameSpans as a contract. Condition: both lists can be read; the first has at most a million elements. -/
import Derived.Test.YthddlhpndaffjaaDoorZRankChecksAA
import Derived.Test.YthddlhpndaffjaaDoorNodeW
import Derived.Test.YthddlhpndaffjaaDoorWalk
import Derived.Test.YthddlhpndaffjaaDoorProg
import Derived.Test.YthddlhpndaffjaaDoorLib
import Derived.Test.YthddlhpndaffjaaDoorSpW
namespace Go.Proofs.YthddlhpndaffjaaDoor
open Go Go.RowKit

/-- The number of the error that Check answers; 0: none. -/
def chkN (n : Nd) : Nat := if formB n = false then 13 else if 200 < depthN n then 14 else if 2000 < sizeN n then 10 else 0
def errR (A : Nat → Addr) (k : Nat) : Value := if k = 0 then .nilIface else errV (A (k - 1))
theorem chk_ok {n : Nd} (h : chkN n = 0) : formB n = true ∧ depthN n ≤ 200 ∧ sizeN n ≤ 2000 := by
  unfold chkN at h
  cases hf : formB n
  · rw [if_pos hf] at h; cases h
  · rw [if_neg (by rw [hf]; decide)] at h
    split at h
    · cases h
    · split at h
      · cases h
      · exact ⟨rfl, by omega, by omega⟩

set_option maxRecDepth 100000 in
set_option maxHeartbeats 4000000 in
theorem check_any (n : Nd) (sv : Value) (w : World) (A : Nat → Addr) (m : Int) (hn : NdOk w n sv) (hE : Err3 w A) (hm : m ≤ 1000000) (hfew : 0 ≤ leftN n m) :
    Calls Tryd.prog 31 #[nodeV n.h sv] w fun r w' => r = .returned (errR A (chkN n)) ∧ Ext w w' := by
  have hsm := small_left n m hm hfew
  have H1 := Lib.hid (fun W (hW : Ext w W) => form_any n sv W (hn.ext hW) hsm)
  have H2 := Lib.hid (fun W (hW : Ext w W) => depth_any n sv W m (hn.ext hW) hm hfew)
  have H3 := Lib.hid (fun W (hW : Ext w W) (hf : formB n = true) => size_any n sv W (hn.ext hW) hsm hf)
  obtain ⟨v9, v12, v13⟩ := hE
  have HR := Lib.hid (show chkN n = if formB n = false then 13 else if 200 < depthN n then 14 else if 2000 < sizeN n then 10 else 0 from rfl)
  clear hn hm hfew hsm
  generalize chkN n = ck at *
  generalize depthN n = dn at *
  generalize sizeN n = sn at *
  generalize hf : formB n = fb at *
  clear hf
  generalize n.h = hd at *
  unfold errV at v9 v12 v13
  go_enter Tryd.func31, Tryd.ntmps31
  go_upto_region 1 with (refine wpl_boxNd rfl _ rfl hd _ rfl ?_; intro b w1 hb hx1 eb sb)
  cases fb
  · have HR2 := Lib.hid (HR.out.trans (if_pos rfl))
    clear HR H2 H3
    go_wp2_with (first
      | (refine wpl_loadNd rfl _ rfl b 0 hd _ rfl hb.nd ?_)
      | (go_at_call 63; refine (H1.out _ hx1).mono ?_; rintro e w2 ⟨rfl, hx2⟩; replace v12 := (hx1.trans hx2).cell v12))
    go_ret
    exact ⟨by rw [HR2.out]; rfl, hx1.trans hx2⟩
  have HR1 := Lib.hid (HR.out.trans (if_neg (by decide)))
  have H3' := Lib.hid (fun W hW => H3.out W hW rfl)
  clear HR H3
  by_cases hd1 : 200 < dn
  · have HR2 := Lib.hid (HR1.out.trans (if_pos hd1))
    clear HR1 H3'
    go_wp2_with (first
      | (refine wpl_loadNd rfl _ rfl b 0 hd _ rfl hb.nd ?_)
      | (go_at_call 63; refine (H1.out _ hx1).mono ?_; rintro e w2 ⟨rfl, hx2⟩)
      | (refine wpl_loadNd rfl _ rfl b 0 hd _ rfl (hb.ext hx2).nd ?_)
      | (go_at_call 34; refine (H2.out _ (hx1.trans hx2)).mono ?_; rintro e w3 ⟨rfl, hx3⟩; replace v13 := ((hx1.trans hx2).trans hx3).cell v13))
    go_ret
    exact ⟨by rw [HR2.out]; rfl, (hx1.trans hx2).trans hx3⟩
  have HR3 := Lib.hid (HR1.out.trans (if_neg hd1))
  clear HR1
  by_cases hd2 : 2000 < sn
  all_goals
    go_wp2_with (first
      | (refine wpl_loadNd rfl _ rfl b 0 hd _ rfl hb.nd ?_)
      | (go_at_call 63; refine (H1.out _ hx1).mono ?_; rintro e w2 ⟨rfl, hx2⟩)
      | (refine wpl_loadNd rfl _ rfl b 0 hd _ rfl (hb.ext hx2).nd ?_)
      | (go_at_call 34; refine (H2.out _ (hx1.trans hx2)).mono ?_; rintro e w3 ⟨rfl, hx3⟩)
      | (refine wpl_loadNd rfl _ rfl b 0 hd _ rfl (hb.ext (hx2.trans hx3)).nd ?_)
      | (go_at_call 64; refine (H3'.out _ ((hx1.trans hx2).trans hx3)).mono ?_; rintro e w4 ⟨rfl, hx4⟩; replace v9 := (((hx1.trans hx2).trans hx3).trans hx4).cell v9))
    go_ret
    exact ⟨by rw [HR3.out]; first | (rw [if_pos hd2]; rfl) | (rw [if_neg (by omega)]; rfl), ((hx1.trans hx2).trans hx3).trans hx4⟩

end Go.Proofs.YthddlhpndaffjaaDoor

namespace Go.Proofs.YthddlhpndaffjaaDoor
open Go Go.RowKit

section
variable {s : ByteArray} {c e : Int} {x : Value}
def checkN (s : ByteArray) (c e : Int) (n : Nd) (p : Ps) : Bool := decide (chkN n = 0) && parseN s.size (leafB s c e) p n

set_option maxRecDepth 100000 in
set_option maxHeartbeats 4000000 in
theorem rankCheck_any (n : Nd) (svn : Value) (p : Ps) (svp : Value) (w : World) (A : Nat → Addr) (m : Int) (hn : NdOk w n svn) (hp : PsOk w p svp) (hE : Err3 w A) (hm : m ≤ 1000000) (hfew : 0 ≤ leftN n m) (hps : smallP p) (hS : IsScene w x s (mkAt s c e s.size)) (hs : s.size ≤ 1000000) :
    Calls Tryd.prog 39 #[nodeV n.h svn, x, psV p.d svp] w fun r w' => r = .returned (.bool (checkN s c e n p)) ∧ Ext w w' := by
  have HC := Lib.hid (fun W (hW : Ext w W) => check_any n svn W A m (hn.ext hW) (hE.ext hW) hm hfew)
  have HP := Lib.hid (fun W (hW : Ext w W) (h0 : chkN n = 0) => parse_any hs p hps n svn svp W (hn.ext hW) (hp.ext hW) (chk_ok h0).1 (hS.ext hW))
  have HR := Lib.hid (show checkN s c e n p = (decide (chkN n = 0) && parseN s.size (leafB s c e) p n) from rfl)
  clear hn hp hE hm hfew hps hS
  generalize checkN s c e n p = res at *
  generalize parseN s.size (leafB s c e) p n = pr at *
  generalize n.h = h at *
  generalize p.d = d at *
  generalize chkN n = ck at *
  by_cases h0 : ck = 0
  · have HP2 := Lib.hid (fun W hW => HP.out W hW h0)
    have FIN := Lib.hid (show res = pr by rw [HR.out, decide_eq_true h0, Bool.true_and])
    have he : errR A ck = .nilIface := by rw [h0]; rfl
    rw [he] at HC
    clear HP HR h0 he
    go_enter Tryd.func39, Tryd.ntmps39
    go_wp2_with (first
      | (refine wpl_boxNd rfl _ rfl h _ rfl ?_; intro z w1 hb hx1 ex sx)
      | (refine wpl_boxPs rfl _ rfl d _ rfl ?_; intro y w2 hc hx2 ey sy)
      | (refine wpl_loadNd rfl _ rfl z 0 h _ rfl (hb.ext hx2).nd ?_)
      | (go_at_call 31; refine (HC.out _ (hx1.trans hx2)).mono ?_; rintro e w3 ⟨rfl, hx3⟩)
      | (refine wpl_loadNdG _ rfl rfl z 0 h _ rfl (hb.ext (hx2.trans hx3)).nd ?_)
      | (refine wpl_loadPsG _ rfl rfl y 0 d _ rfl (hc.ext hx3).ps ?_)
      | (go_at_call 66; refine (HP2.out _ ((hx1.trans hx2).trans hx3)).mono ?_; rintro e w4 ⟨rfl, hx4⟩))
    go_ret
    exact ⟨by rw [FIN.out]; rfl, ((hx1.trans hx2).trans hx3).trans hx4⟩
  · have FIN := Lib.hid (show res = false by rw [HR.out, decide_eq_false h0]; rfl)
    have he : errR A ck = errV (A (ck - 1)) := by unfold errR; rw [if_neg h0]
    rw [he] at HC
    unfold errV at HC
    clear HP HR h0 he
    go_enter Tryd.func39, Tryd.ntmps39
    go_wp2_with (first
      | (refine wpl_boxNd rfl _ rfl h _ rfl ?_; intro z w1 hb hx1 ex sx)
      | (refine wpl_boxPs rfl _ rfl d _ rfl ?_; intro y w2 hc hx2 ey sy)
      | (refine wpl_loadNd rfl _ rfl z 0 h _ rfl (hb.ext hx2).nd ?_)
      | (go_at_call 31; refine (HC.out _ (hx1.trans hx2)).mono ?_; rintro e w3 ⟨rfl, hx3⟩))
    go_ret
    exact ⟨by rw [FIN.out]; rfl, (hx1.trans hx2).trans hx3⟩

def nowhere : Int × Int := (-1, -1)
def spans0 (d : Pd) (g : Nat) : List (Int × Int) := (List.replicate (g + 1) (-1, -1)).set 0 (d.a, d.b)
def spansN (n : Nd) (p : Ps) (g : Nat) : List (Int × Int) := walkN p n (spans0 p.d g)
theorem spansN_len (n : Nd) (p : Ps) (g : Nat) : (spansN n p g).length = g + 1 := by unfold spansN spans0; rw [walkN_len]; simp
def okSp (s : ByteArray) (c e : Int) (n : Nd) (p : Ps) (g : Int) : Bool := decide (0 ≤ g) && decide (g ≤ 999) && checkN s c e n p
theorem info_spZ : (Tryd.prog.info? 74).map (fun i => (i.zero, i.size, i.bytes)) = some (some (.agg [Value.int .i64 0, Value.int .i64 0].toArray), 2, 16) := by kernel_rfl
/-- What rank.Spans answers. -/
def RetSp (w : World) (ok : Bool) (l : List (Int × Int)) (r : Ending) (w' : World) : Prop :=
  (ok = false ∧ r = .returned (.tuple #[.slice none 0 0, .bool false]) ∧ Ext w w') ∨ (ok = true ∧ ∃ g cp, r = .returned (.tuple #[.slice (some ⟨g, 0, none⟩) l.length cp, .bool true]) ∧ OwnSp w' w.heap.size (.slice (some ⟨g, 0, none⟩) l.length cp) l ∧ Ext w w')

theorem rep_set (k m : Nat) (hk : k < m) : (List.replicate k ((-1 : Int), (-1 : Int)) ++ List.replicate (m - k) (0, 0)).set k (-1, -1) = List.replicate (k + 1) (-1, -1) ++ List.replicate (m - (k + 1)) (0, 0) := by
  rw [List.set_append_right _ _ (by simp), List.length_replicate, Nat.sub_self, show m - k = (m - (k + 1)) + 1 by omega, List.replicate_succ, List.set_cons_zero, List.replicate_succ', List.append_assoc]
  rfl

set_option maxRecDepth 100000 in
set_option maxHeartbeats 4000000 in
theorem spansR_any (n : Nd) (svn : Value) (p : Ps) (svp : Value) (G : Int) (w : World) (A : Nat → Addr) (m : Int) (hn : NdOk w n svn) (hp : PsOk w p svp) (hE : Err3 w A) (hm : m ≤ 1000000) (hfew : 0 ≤ leftN n m) (hps : smallP p) (hS : IsScene w x s (mkAt s c e s.size)) (hs : s.size ≤ 1000000) :
    Calls Tryd.prog 41 #[nodeV n.h svn, x, psV p.d svp, .int .i64 G] w (RetSp w (okSp s c e n p G) (spansN n p G.toNat)) := by
  have HC := Lib.hid (fun W (hW : Ext w W) => rankCheck_any n svn p svp W A m (hn.ext hW) (hp.ext hW) (hE.ext hW) hm hfew hps (hS.ext hW) hs)
  have hsm := small_left n m hm hfew
  have HW := Lib.hid (fun (h0 : checkN s c e n p = true) (W : World) g nn cp l (hx : Ext w W) (hg : w.heap.size ≤ g) (hO : OwnSp W w.heap.size (.slice (some ⟨g, 0, none⟩) nn cp) l) => (by
    unfold checkN at h0
    rw [Bool.and_eq_true, decide_eq_true_eq] at h0
    exact walk_any p n svn svp w W w.heap.size g nn cp l hn hp (chk_ok h0.1).1 hsm hps h0.2 hx hg hO : Calls Tryd.prog 68 #[nodeV n.h svn, psV p.d svp, .slice (some ⟨g, 0, none⟩) nn cp] W fun r w' => r = .returned (.tuple #[]) ∧ OwnSp w' w.heap.size (.slice (some ⟨g, 0, none⟩) nn cp) (walkN p n l) ∧ Keeps (· = g) W w'))
  have HR := Lib.hid (show okSp s c e n p G = (decide (0 ≤ G) && decide (G ≤ 999) && checkN s c e n p) from rfl)
  have HF := Lib.hid (show spansN n p G.toNat = walkN p n (spans0 p.d G.toNat) from rfl)
  have HLn := Lib.hid (spansN_len n p G.toNat)
  clear hn hp hE hm hfew hps hS hsm
  generalize okSp s c e n p G = ok at *
  generalize spansN n p G.toNat = res at *
  generalize checkN s c e n p = ck at *
  generalize n.h = h at *
  generalize p.d = d at *
  go_enter Tryd.func41, Tryd.ntmps41
  go_upto_region 1 with (first
    | (refine wpl_boxNd rfl _ rfl h _ rfl ?_; intro z w1 hb hx1 ex sx)
    | (refine wpl_boxPs rfl _ rfl d _ rfl ?_; intro y w2 hc hx2 ey sy))
  have hx12 := hx1.trans hx2
  have hb2 := hb.ext hx2
  clear hb hx1 hx2 ex sx ey sy
  by_cases t1 : G < 0
  · have FIN := Lib.hid (show ok = false by rw [HR.out, decide_eq_false (by omega : ¬ 0 ≤ G)]; rfl)
    clear HR HF HC HW HLn
    go_wp2
    go_ret2
    exact .inl ⟨FIN.out, rfl, hx12⟩
  by_cases t2 : 999 < G
  · have FIN := Lib.hid (show ok = false by rw [HR.out, decide_eq_false (by omega : ¬ G ≤ 999)]; simp)
    clear HR HF HC HW HLn
    go_wp2
    go_ret2
    exact .inl ⟨FIN.out, rfl, hx12⟩
  have HR2 := Lib.hid (show ok = ck by rw [HR.out, decide_eq_true (by omega : 0 ≤ G), decide_eq_true (by omega : G ≤ 999)]; rfl)
  clear HR
  cases ck
  · clear HF HW HLn
    go_wp2_with (first
      | (refine wpl_loadNdG _ rfl rfl z 0 h _ rfl hb2.nd ?_)
      | (refine wpl_loadPsG _ rfl rfl y 0 d _ rfl hc.ps ?_)
      | (go_at_call 39; refine (HC.out _ hx12).mono ?_; rintro e w3 ⟨rfl, hx3⟩))
    go_ret2
    exact .inl ⟨HR2.out, rfl, hx12.trans hx3⟩
  obtain ⟨gn, rfl⟩ := Int.eq_ofNat_of_zero_le (show 0 ≤ G by omega)
  have HW2 := Lib.hid (HW.out rfl)
  rw [show ((gn : Int)).toNat = gn from Int.toNat_natCast gn] at HF HLn
  have q1 : IntKind.i64.wrap ((gn : Int) + 1) = ((gn + 1 : Nat) : Int) := by rw [IntKind.wrap_i64]; omega
  clear HW
  go_upto_region 4 with (first
    | (refine wpl_loadNdG _ rfl rfl z 0 h _ rfl hb2.nd ?_)
    | (refine wpl_loadPsG _ rfl rfl y 0 d _ rfl hc.ps ?_)
    | (go_at_call 39; refine (HC.out _ hx12).mono ?_; rintro e w3 ⟨rfl, hx3⟩)
    | (refine wpList_makeR rfl _ _ _ rfl w.heap.size 74 [.int .i64 0, .int .i64 0] 2 16 Tryd.underlying68 info_spZ rfl (by decide) (gn + 1) rfl rfl (by omega) (by omega) (hx12.trans hx3).size ?_; intro g w4 hO4 hx4 eg sg))
  have hg : w.heap.size ≤ g := by rw [← eg]; exact (hx12.trans hx3).size
  replace hx12 := (hx12.trans hx3).trans hx4
  replace hb2 := (hb2.ext hx3).ext hx4
  replace hc := (hc.ext hx3).ext hx4
  have hO : OwnSp w4 w.heap.size (.slice (some ⟨g, 0, none⟩) (gn + 1) (gn + 1)) (List.replicate 0 (-1, -1) ++ List.replicate (gn + 1 - 0) (0, 0)) := by
    have e1 : spR (List.replicate 0 (-1, -1) ++ List.replicate (gn + 1 - 0) (0, 0)) = List.replicate (gn + 1) [Value.int .i64 0, Value.int .i64 0] := by simp [spR, spC, List.map_replicate]
    unfold OwnSp
    rw [e1]
    exact hO4
  clear hx3 hx4 eg sg HC q1 hO4
  have HA := Lib.hid hb2.nd
  have HB := Lib.hid hc.ps
  have p0 : w4.cell? ⟨y, 0, none⟩ = some (.int .i64 d.a) := hc.cell 0
  have p1 : w4.cell? ⟨y, 1, none⟩ = some (.int .i64 d.b) := hc.cell 1
  have HZG := Lib.hid (own_ne hO hb2 (by decide))
  have HYG := Lib.hid (own_ne hO hc (by decide))
  clear hb2 hc
  have hk44 : Keeps (· = g) w4 w4 := Keeps.refl _ _
  go_wp2
  go_loopw [30] (fun i wr => ∃ (k : Nat), k ≤ gn + 1 ∧ i = .int .i64 k ∧ OwnSp wr w.heap.size (.slice (some ⟨g, 0, none⟩) (gn + 1) (gn + 1)) (List.replicate k (-1, -1) ++ List.replicate (gn + 1 - k) (0, 0)) ∧ Keeps (· = g) w4 wr) (fun i _ => gn + 1 - (intOf i).toNat)
  case atStart => exact ⟨0, Nat.zero_le _, rfl, hO, hk44⟩
  case round =>
    clear hk44 hO
    obtain ⟨k, hk, rfl, hO, hkr⟩ := hrel
    by_cases hlt : k < gn + 1
    · have HST := Lib.hid (rep_set k (gn + 1) hlt)
      have hll : k < (List.replicate k ((-1 : Int), (-1 : Int)) ++ List.replicate (gn + 1 - k) (0, 0)).length := by simp; omega
      have HLL := Lib.hid hll
      clear hll HF HLn HW2
      generalize (List.replicate k ((-1 : Int), (-1 : Int)) ++ List.replicate (gn + 1 - k) (0, 0)) = lk at *
      have d1 : (k : Int) < ((gn + 1 : Nat) : Int) := by omega
      go_wp2_with (refine wpl_setSp rfl _ _ rfl rfl w.heap.size g _ (gn + 1) lk k (-1, -1) rfl rfl hO HLL.out ?_; intro w6 hO6 hk6)
      go_roundw
      case rel => exact ⟨k + 1, by omega, by go_num, by rw [← HST.out]; exact hO6, hkr.trans hk6 (fun _ _ e => e)⟩
      case measure => simp [intOf]; omega
    · have hkk : k = gn + 1 := by omega
      have he : (List.replicate k ((-1 : Int), (-1 : Int)) ++ List.replicate (gn + 1 - k) (0, 0)) = List.replicate (gn + 1) (-1, -1) := by rw [hkk, Nat.sub_self]; simp
      rw [he] at hO
      replace p0 := hkr.cellb p0 HYG.out
      replace p1 := hkr.cellb p1 HYG.out
      have HAt := Lib.hid (HA.out.keeps hkr HZG.out)
      have HBt := Lib.hid (fun i (hi : i < 4) => (by
        have hs' : (psC d svp)[i]? = some (psC d svp)[i] := List.getElem?_eq_getElem (by simpa [psC] using hi)
        have h1 := HB.out i hi
        rw [hs'] at h1 ⊢
        exact hkr.cellb h1 HYG.out : wr.cell? ⟨y, 0 + i, none⟩ = (psC d svp)[i]?))
      have hxr := hx12.keep1 hkr hg
      have d1 : ¬ (k : Int) < ((gn + 1 : Nat) : Int) := by omega
      have HLr := Lib.hid (show 0 < (List.replicate (gn + 1) ((-1 : Int), (-1 : Int))).length by simp)
      have HSp := Lib.hid (show (List.replicate (gn + 1) ((-1 : Int), (-1 : Int))).set 0 (d.a, d.b) = spans0 d gn from rfl)
      clear he hkk hk hkr HA HB
      generalize List.replicate (gn + 1) ((-1 : Int), (-1 : Int)) = l0 at *
      generalize d.a = a at *
      generalize d.b = b at *
      go_upto_region 10 with (refine wpl_setSp rfl _ _ rfl rfl w.heap.size g _ (gn + 1) l0 0 (a, b) rfl rfl hO HLr.out ?_; intro w6 hO6 hk6)
      rw [HSp.out] at hO6
      have hx6 := hxr.keep1 hk6 hg
      have HA6 := Lib.hid (HAt.out.keeps hk6 HZG.out)
      have HB6 := Lib.hid (fun i (hi : i < 4) => (by
        have hs' : (psC d svp)[i]? = some (psC d svp)[i] := List.getElem?_eq_getElem (by simpa [psC] using hi)
        have h1 := HBt.out i hi
        rw [hs'] at h1 ⊢
        exact hk6.cellb h1 HYG.out : w6.cell? ⟨y, 0 + i, none⟩ = (psC d svp)[i]?))
      have HC := Lib.hid (HW2.out w6 g (gn + 1) (gn + 1) (spans0 d gn) hx6 hg hO6)
      rw [← HF.out] at HC
      have HRL := HLn.out
      clear hO hO6 hk6 HW2 HF HLr HSp HAt HBt hxr p0 p1 HLn
      have HRLh := Lib.hid HRL
      clear HRL
      go_wp2_with (first
        | (refine wpl_loadNd rfl _ rfl z 0 h _ rfl HA6.out ?_)
        | (refine wpl_loadPs rfl _ rfl y 0 d _ rfl HB6.out ?_)
        | (go_at_call 68; refine HC.out.mono ?_; rintro e w7 ⟨rfl, hO7, hk7⟩))
      go_ret2
      exact .inr ⟨HR2.out, g, gn + 1, by rw [HRLh.out]; rfl, by rw [HRLh.out]; exact hO7, hx6.keep1 hk7 hg⟩
end

end Go.Proofs.YthddlhpndaffjaaDoor

namespace Go.Proofs.YthddlhpndaffjaaDoor
open Go.RowKit

theorem info_int : (Tryd.prog.info? 3).map (fun i => (i.zero, i.size, i.bytes)) = some (some (.int .i64 0), 1, 8) := by kernel_rfl

def cI (l : List Int) : List Value := l.map (Value.int .i64)
@[simp] theorem cI_len (l : List Int) : (cI l).length = l.length := by simp [cI]
theorem cI_get (l : List Int) (j : Nat) (h : j < l.length) : (cI l)[j]? = some (.int .i64 (l.getD j 0)) := by simp [cI, h]
def i64s (l : List Int) : Array Value := (cI l).toArray
@[simp] theorem i64s_size (l : List Int) : (i64s l).size = l.length := by simp [i64s]
theorem i64s_get (l : List Int) (j : Nat) (h : j < l.length) : (i64s l)[j]? = some (.int .i64 (l.getD j 0)) := by simp [i64s, cI, h]
theorem i64s_set (l : List Int) (j : Nat) (x : Int) : (i64s l).setIfInBounds j (.int .i64 x) = i64s (l.set j x) := by
  apply Array.ext'
  simp [i64s, cI, List.map_set]
theorem made_i64 (n : Nat) : madeCells #[Value.int .i64 0] n = i64s (List.replicate n 0) := by
  apply Array.ext
  · simp [madeCells]
  · intro i h1 h2
    simp [madeCells, i64s, cI, Nat.mod_one]

/-- A slice of ints reads as this list. -/
def RdI (w : World) (v : Value) (l : List Int) : Prop :=
  ∃ A c, v = .slice A l.length c ∧ ∀ j, j < l.length → ∃ g o, A = some ⟨g, o, none⟩ ∧ w.cell? ⟨g, o + j, none⟩ = some (.int .i64 (l.getD j 0))

theorem RdI.ext {w w' : World} {v : Value} {l : List Int} (h : RdI w v l) (hx : Ext w w') : RdI w' v l := by
  obtain ⟨A, c, hv, hc⟩ := h
  exact ⟨A, c, hv, fun j hj => by obtain ⟨g, o, hA, hcell⟩ := hc j hj; exact ⟨g, o, hA, hx.cell hcell⟩⟩
theorem RdI.of_own {w : World} {B : Nat} {e : TypeId} {v : Value} {l : List Int} (h : Own1 w B e v (cI l)) : RdI w v l := by
  rcases Nat.eq_zero_or_pos l.length with h0 | h0
  · rcases h.2 with ⟨rfl, _⟩ | ⟨g, cap, cur, rfl, _⟩
    · exact ⟨none, 0, by rw [h0], fun j hj => by omega⟩
    · exact ⟨some ⟨g, 0, none⟩, cap, by rw [cI_len], fun j hj => by omega⟩
  · obtain ⟨g, cap, rfl, _, _, hc⟩ := h.form (by simpa using h0)
    exact ⟨some ⟨g, 0, none⟩, cap, by rw [cI_len], fun j hj => ⟨g, 0, rfl, by rw [Nat.zero_add]; exact hc j _ (cI_get l j hj)⟩⟩
theorem RdI.of_blk {w : World} {g : Nat} {e : TypeId} {l : List Int} {c : Nat} (h : Blk w g e (i64s l)) : RdI w (.slice (some ⟨g, 0, none⟩) l.length c) l :=
  ⟨_, _, rfl, fun j hj => ⟨g, 0, rfl, by rw [Nat.zero_add, h.cell]; exact i64s_get l j hj⟩⟩

theorem getD_ext (la lb : List Int) (hl : la.length = lb.length) (h : ∀ j, j < la.length → la.getD j 0 = lb.getD j 0) : la = lb := by
  apply List.ext_getElem hl
  intro j h1 h2
  have := h j h1
  rw [List.getD_eq_getElem?_getD, List.getD_eq_getElem?_getD, List.getElem?_eq_getElem h1, List.getElem?_eq_getElem h2] at this
  exact this

end Go.Proofs.YthddlhpndaffjaaDoor

namespace Go.Proofs.YthddlhpndaffjaaDoor
open Go Go.RowKit

/-- A slice of spans reads as this list. -/
def RdS (w : World) (v : Value) (l : List (Int × Int)) : Prop :=
  ∃ A c, v = .slice A l.length c ∧ ∀ j (h : j < l.length), ∃ g o, A = some ⟨g, o, none⟩ ∧ w.cell? ⟨g, o + j * 2, none⟩ = some (.int .i64 l[j].1) ∧ w.cell? ⟨g, o + j * 2 + 1, none⟩ = some (.int .i64 l[j].2)
theorem RdS.ext {w w' : World} {v : Value} {l : List (Int × Int)} (h : RdS w v l) (hx : Ext w w') : RdS w' v l := by
  obtain ⟨A, c, hv, hc⟩ := h
  exact ⟨A, c, hv, fun j hj => by obtain ⟨g, o, hA, h1, h2⟩ := hc j hj; exact ⟨g, o, hA, hx.cell h1, hx.cell h2⟩⟩
theorem RdS.nil (w : World) (A : Option Addr) (c : Nat) : RdS w (.slice A 0 c) [] := ⟨A, c, rfl, fun _ hj => absurd hj (Nat.not_lt_zero _)⟩
theorem RdS.of_own {w : World} {B : Nat} {v : Value} {l : List (Int × Int)} (h : OwnSp w B v l) : RdS w v l := by
  rcases OwnR.slice h with ⟨rfl, h0⟩ | ⟨g, cap, cur, hv, _⟩
  · have : l = [] := by cases l with
      | nil => rfl
      | cons => simp [spR] at h0
    subst this
    exact RdS.nil _ _ _
  · subst hv
    refine ⟨_, cap, by rw [spR_len], fun j hj => ⟨g, 0, rfl, ?_, ?_⟩⟩
    · have := OwnR.cell h j _ (spR_get l j hj) 0 (by omega)
      rw [Nat.zero_add]
      exact this
    · have := OwnR.cell h j _ (spR_get l j hj) 1 (by omega)
      rw [Nat.zero_add]
      exact this

set_option maxHeartbeats 4000000 in
theorem eqIn_span (d : Nat) (a0 a1 b0 b1 : Int) (w : World) :
    (Op.equalIn (d + 2) 74 (.agg #[.int .i64 a0, .int .i64 a1]) (.agg #[.int .i64 b0, .int .i64 b1])).run Tryd.prog w = .ok (decide (a0 = b0 ∧ a1 = b1)) w := by
  have p0 : ∀ (a0 a1 : Int) w, (part 3 #[.int .i64 a0, .int .i64 a1] 0).run Tryd.prog w = .ok (.int .i64 a0) w := fun _ _ _ => by kernel_rfl
  have p1 : ∀ (a0 a1 : Int) w, (part 3 #[.int .i64 a0, .int .i64 a1] 1).run Tryd.prog w = .ok (.int .i64 a1) w := fun _ _ _ => by kernel_rfl
  have e : ∀ (a b : Int) w, (Op.equalIn (d + 1) 3 (.int .i64 a) (.int .i64 b)).run Tryd.prog w = .ok (decide (a = b)) w := fun a b w => by
    rw [run_equalIn_int w d _ _ _ a b Tryd.underlying3]; by_cases h : a = b <;> simp [h]
  unfold Op.equalIn
  simp only [Sem.run_bind, run_underlying Tryd.underlying74, Result.andThen_ok]
  by_cases h0 : a0 = b0 <;> by_cases h1 : a1 = b1 <;> simp [p0, p1, e, List.forIn_cons, h0, h1]
theorem neq_span (a0 a1 b0 b1 : Int) (w : World) :
    (binOp .neq 74 (.agg #[.int .i64 a0, .int .i64 a1]) (.agg #[.int .i64 b0, .int .i64 b1])).run Tryd.prog w = .ok (.bool (!decide (a0 = b0 ∧ a1 = b1))) w := by
  have := eqIn_span 9998 a0 a1 b0 b1 w
  simp only [binOp]
  simp [Op.equal, Op.maxDepth, this]

theorem eq_prefix {la lb : List (Int × Int)} (hl : la.length = lb.length) (h : ∀ j (h1 : j < la.length) (h2 : j < lb.length), la[j] = lb[j]) : la = lb := List.ext_getElem hl h

set_option maxRecDepth 100000 in
set_option maxHeartbeats 2000000 in
theorem sameSpans_any (va vb : Value) (la lb : List (Int × Int)) (w : World) (hm : la.length ≤ 1000000) (ha : RdS w va la) (hb : RdS w vb lb) :
    Calls Tryd.prog 43 #[va, vb] w fun r w' => r = .returned (.bool (decide (la = lb))) ∧ Ext w w' := by
  obtain ⟨A, ca, rfl, hca⟩ := ha
  obtain ⟨B, cb, rfl, hcb⟩ := hb
  have HCA := Lib.hid hca
  have HCB := Lib.hid hcb
  clear hca hcb
  by_cases hl : la.length = lb.length
  case neg =>
    have hne : ((la.length : Int) != (lb.length : Int)) = true := by rw [bne_iff_ne]; omega
    have hf : decide (la = lb) = false := by rw [decide_eq_false_iff_not]; intro e; apply hl; rw [e]
    have HF := Lib.hid hf
    clear hf hl
    go_enter Tryd.func43, Tryd.ntmps43
    go_wp2
    go_ret
    exact ⟨ret_bool HF.out.symm, Ext.refl _⟩
  have hne : ((la.length : Int) != (lb.length : Int)) = false := by rw [hl]; simp
  have HL := Lib.hid hl; clear hl
  go_enter Tryd.func43, Tryd.ntmps43
  go_wp2
  go_loopw [13] (fun i wr => ∃ k : Nat, k ≤ la.length ∧ i = .int .i64 k ∧ Hid (∀ j (h1 : j < la.length) (h2 : j < lb.length), j < k → la[j] = lb[j]) ∧ Ext w wr) (fun i _ => la.length - (intOf i).toNat)
  case atStart => exact ⟨0, Nat.zero_le _, rfl, Lib.hid (fun j _ _ hj => by omega), Ext.refl _⟩
  case round =>
    obtain ⟨k, hk, rfl, hq, hx⟩ := hrel
    by_cases hlt : k < la.length
    · have hlt2 : k < lb.length := by have := HL.out; omega
      obtain ⟨g, o, rfl, h1, h2⟩ := HCA.out k hlt
      obtain ⟨g', o', rfl, h3, h4⟩ := HCB.out k hlt2
      have p1 := cell_plus (hx.cell h1)
      have p2 := cell_plus (hx.cell h2)
      have p3 := cell_plus (hx.cell h3)
      have p4 := cell_plus (hx.cell h4)
      have t1 : (k : Int) < (la.length : Int) := by omega
      have t2 : (k : Int) < (lb.length : Int) := by omega
      have HE := Lib.hid (show (la[k] = lb[k]) ↔ (la[k].1 = lb[k].1 ∧ la[k].2 = lb[k].2) from Prod.ext_iff)
      have HNE := Lib.hid (show la = lb → la[k] = lb[k] from fun e => by subst e; rfl)
      clear h1 h2 h3 h4 HCA HCB
      have HQ := hq
      clear hq
      generalize hxk : la[k] = xk at *
      generalize hyk : lb[k] = yk at *
      have HXK := Lib.hid hxk
      have HYK := Lib.hid hyk
      clear hxk hyk
      obtain ⟨x1, x2⟩ := xk
      obtain ⟨y1, y2⟩ := yk
      simp only at *
      have hne2 := neq_span x1 x2 y1 y2
      obtain ⟨bq, HBQ⟩ : ∃ bq, Hid (bq = decide (x1 = y1 ∧ x2 = y2)) := ⟨_, Lib.hid rfl⟩
      rw [← HBQ.out] at hne2
      go_upto_region 6 with fail
      refine wp_region_plus (by kernel_rfl) (by kernel_rfl) ?_
      repeat (go_big_quiet_step (fail))
      refine wpQuiet_nil ?_
      intro y
      clear p1 p2 p3 p4 hne2
      cases bq
      · have hf : decide (la = lb) = false := by
          rw [decide_eq_false_iff_not]
          intro e
          have h1 := HBQ.out
          rw [decide_eq_true (by have := HNE.out e; simpa using this)] at h1
          cases h1
        have HF := Lib.hid hf
        clear hf
        go_wp2
        go_ret
        exact ⟨ret_bool HF.out.symm, hx.trans (plus_ext _ y)⟩
      · have HEQ := Lib.hid (of_decide_eq_true HBQ.out.symm)
        go_wp2
        go_roundw
        case rel =>
          refine ⟨k + 1, hlt, by go_num, Lib.hid (fun j h1 h2 hj => ?_), hx.trans (plus_ext _ y)⟩
          rcases Nat.lt_or_ge j k with hjk | hjk
          · exact HQ.out j h1 h2 hjk
          · have : j = k := by omega
            subst this
            rw [HXK.out, HYK.out, HEQ.out.1, HEQ.out.2]
        case measure => simp [intOf]; omega
    · have hf : decide (la = lb) = true := by
        rw [decide_eq_true_eq]
        exact eq_prefix HL.out (fun j h1 h2 => hq.out j h1 h2 (by omega))
      have HF := Lib.hid hf
      have t1 : ¬ (k : Int) < (la.length : Int) := by omega
      clear hf hq HCA HCB
      go_wp2
      go_ret
      exact ⟨ret_bool HF.out.symm, hx⟩

end Go.Proofs.YthddlhpndaffjaaDoor
