/- engine.lay for every small right tree. Conditions: as Lay's. ranked.asked as a contract: the errors of a call, else an engine with its spans all nowhere. Condition: the tree, the scene and the places lie in memory; the error values lie where they lie. engine.told as a contract: the spans of a piece that is taken. Conditions: as Lay's; there is at least one span. ranked.Find and ranked.Spans as contracts. Conditions: the tree, the scene and the library's table lie in memory; the tree has few nodes; the error values lie where they lie. -/
import Derived.Test.YtgfknlkpdiejgaaGreatDoorZRankedFindsAR
import Derived.Test.YtgfknlkpdiejgaaGreatDoorZRankedFindsAQ
import Derived.Test.YtgfknlkpdiejgaaGreatDoorZRankedFindsAG
import Derived.Test.YtgfknlkpdiejgaaGreatDoorZRankedFindsAO
import Derived.OwnWalk
namespace Go.Proofs.YtgfknlkpdiejgaaGreatDoor
open Go Go.RowKit
section
variable {W : World} {x : Value} {s : ByteArray} {m : List UInt8} {nw ge g c B : Nat}
set_option maxRecDepth 100000 in
set_option maxHeartbeats 16000000 in
theorem lay_rep (h : Hd) (s0 : Nd) (hk : h.kind = 8) (IH : LayOf W x s m nw ge g c B s0) (hge : ge ≠ g) (hg : W.heap.size ≤ g) (hS : IsScene W x s m) (hT : Tab W) (hnw : s.size / 64 < nw) (hnn : nw ≤ 1000000) (hss : s.size ≤ 1000000) (hm : m.length ≤ 10000000) : LayOf W x s m nw ge g c B (.mk h [s0]) := by
  intro svn w l a b tg tk hN hA htg hf hsm hx hE hO ht hb
  simp only [Nd.h] at hA
  have n0 : w.cell? ⟨tg, tk, none⟩ = some (.int .i64 h.kind) := hA 0 (by decide)
  have hc := repeat_any h s0 hk IH hge hg hS hT hnw hnn hss hm svn w l a b tg tk hN hA htg hf hsm hx hE hO ht hb
  rw [← walk_rep (L := lfM s m) hk] at hc
  have HC := Lib.hid hc
  rw [hk] at n0
  clear hN hA hf hsm hx hE hO ht hk IH hc hS hT
  go_enter Tryz.func55, Tryz.ntmps55
  go_wp2_with (go_at_call 74; refine HC.out.mono ?_; rintro e w4 ⟨rfl, hO4, hk4⟩)
  go_end0
  exact ⟨rfl, hO4, hk4⟩
theorem lay_any (hge : ge ≠ g) (hg : W.heap.size ≤ g) (hS : IsScene W x s m) (hT : Tab W) (hnw : s.size / 64 < nw) (hnn : nw ≤ 1000000) (hss : s.size ≤ 1000000) (hm : m.length ≤ 10000000) : ∀ t : Nd, LayOf W x s m nw ge g c B t := Nd.ind fun h subs ih => by
  intro svn w l a b tg tk hN hA htg hf hsm hx hE hO ht hb
  rcases form_cases hf with ⟨hk, _⟩ | ⟨hk, _⟩ | ⟨hk, _⟩ | ⟨hk, _⟩ | ⟨hk, _⟩ | ⟨hk, _⟩ | ⟨hk, hn, _⟩ | ⟨hk, hn, _⟩
  · exact lay_leaf h subs (by omega) (by omega) svn w l a b tg tk hN hA htg hf hsm hx hE hO ht hb
  · exact lay_leaf h subs (by omega) (by omega) svn w l a b tg tk hN hA htg hf hsm hx hE hO ht hb
  · exact lay_leaf h subs (by omega) (by omega) svn w l a b tg tk hN hA htg hf hsm hx hE hO ht hb
  · exact lay_leaf h subs (by omega) (by omega) svn w l a b tg tk hN hA htg hf hsm hx hE hO ht hb
  · exact lay_seq h subs hk ih hge hg hS hT hnw hnn hss hm svn w l a b tg tk hN hA htg hf hsm hx hE hO ht hb
  · exact lay_alt h subs hk ih hg hS hT hnw (by omega) hss hm svn w l a b tg tk hN hA htg hf hsm hx hE hO ht hb
  · obtain ⟨s0, rfl⟩ := List.length_eq_one_iff.1 hn
    exact lay_group h s0 hk (ih s0 (by simp)) hge hg svn w l a b tg tk hN hA htg hf hsm hx hE hO ht hb
  · obtain ⟨s0, rfl⟩ := List.length_eq_one_iff.1 hn
    exact lay_rep h s0 hk (ih s0 (by simp)) hge hg hS hT hnw hnn hss hm svn w l a b tg tk hN hA htg hf hsm hx hE hO ht hb
end

end Go.Proofs.YtgfknlkpdiejgaaGreatDoor

namespace Go.Proofs.YtgfknlkpdiejgaaGreatDoor
open Go Go.RowKit

/-- A slice of integers reads as this list. -/
def RdJ (w : World) (v : Value) (l : List Int) : Prop := ∃ A c, v = .slice A l.length c ∧ ∀ j (h : j < l.length), ∃ g o, A = some ⟨g, o, none⟩ ∧ w.cell? ⟨g, o + j, none⟩ = some (.int .i64 l[j])
theorem RdJ.ext {w w' : World} {v : Value} {l : List Int} (h : RdJ w v l) (hx : Ext w w') : RdJ w' v l := by
  obtain ⟨A, c, hv, hc⟩ := h
  exact ⟨A, c, hv, fun j hj => by obtain ⟨g, o, hA, h1⟩ := hc j hj; exact ⟨g, o, hA, hx.cell h1⟩⟩
/-- A call's error. -/
def outB (n : Nat) (ats : List Int) : Bool := ats.any fun i => decide (i < 0) || decide ((n : Int) < i)
def askN (t : Nd) (n : Nat) (G : Int) (ats : List Int) : Nat := if chkN t ≠ 0 then chkN t else if outB n ats = true ∨ G < 0 ∨ 999 < G then 15 else 0
theorem ask_ok {t : Nd} {n : Nat} {G : Int} {ats : List Int} (h : askN t n G ats = 0) : chkN t = 0 ∧ outB n ats = false ∧ 0 ≤ G ∧ G ≤ 999 := by
  unfold askN at h
  split at h
  · rename_i h1; exact absurd h h1
  · rename_i h1
    split at h
    · cases h
    · rename_i h2
      refine ⟨by simpa using h1, ?_, by omega, by omega⟩
      cases e : outB n ats with
      | false => rfl
      | true => exact absurd (.inl e) h2
/-- What asked answers. -/
def AskR (w : World) (x : Value) (nw : Nat) (k : Nat) (G : Int) (A : Nat → Addr) (r : Ending) (w' : World) : Prop :=
  (k ≠ 0 ∧ r = .returned (.tuple #[.pointer none, errV (A (k - 1))]) ∧ Ext w w') ∨
  (k = 0 ∧ ∃ ge g, r = .returned (.tuple #[.pointer (some ⟨ge, 0, none⟩), .nilIface]) ∧ EnSp w' ge x nw g (G.toNat + 1) (G.toNat + 1) ∧ OwnSp w' w.heap.size (.slice (some ⟨g, 0, none⟩) (G.toNat + 1 : Nat) (G.toNat + 1)) (List.replicate (G.toNat + 1) (-1, -1)) ∧ ge ≠ g ∧ w.heap.size ≤ g ∧ Ext w w')
theorem ownS_lt {w : World} {B g nn c : Nat} {l : List (Int × Int)} (hO : OwnSp w B (.slice (some ⟨g, 0, none⟩) nn c) l) : g < w.heap.size := by
  rcases OwnR.slice hO with ⟨h0, _⟩ | ⟨g', cap, cur, hv, _, hB, _⟩
  · cases h0
  · simp only [Value.slice.injEq, Option.some.injEq, Addr.mk.injEq] at hv
    rw [hv.1.1]
    exact hB.lt
theorem own_zero {w : World} {B g n : Nat} (h : OwnR w B 52 2 (.slice (some ⟨g, 0, none⟩) n n) (List.replicate n [Value.int .i64 0, Value.int .i64 0])) : OwnSp w B (.slice (some ⟨g, 0, none⟩) n n) (List.replicate n (0, 0)) := by
  have e1 : spR (List.replicate n (0, 0)) = List.replicate n [Value.int .i64 0, Value.int .i64 0] := by simp [spR, spC, List.map_replicate]
  unfold OwnSp
  rw [e1]
  exact h
theorem info_spZ2 : (Tryz.prog.info? 52).map (fun i => (i.zero, i.size, i.bytes)) = some (some (.agg [Value.int .i64 0, Value.int .i64 0].toArray), 2, 16) := by kernel_rfl

set_option maxRecDepth 100000 in
set_option maxHeartbeats 16000000 in
theorem asked_any (t : Nd) (svn x sa : Value) (s : ByteArray) (m : List UInt8) (G : Int) (ats : List Int) (w : World) (A : Nat → Addr) (lim : Int) (hn : NdOk w t svn) (hS : IsScene w x s m) (ha : RdJ w sa ats) (hE : Err3 w A) (v14 : w.cell? ⟨14, 0, none⟩ = some (errV (A 14))) (hm : lim ≤ 1000000) (hfew : 0 ≤ leftN t lim) (hs : s.size ≤ 200000000000000) (hal : ats.length ≤ 1000) :
    Calls Tryz.prog 23 #[nodeV t.h svn, x, .int .i64 G, sa] w (AskR w x (s.size / 64 + 1) (askN t s.size G ats) G A) := by
  have HC := Lib.hid (fun W (hW : Ext w W) => check_any t svn W A lim (hn.ext hW) (hE.ext hW) hm hfew)
  have HL := Lib.hid (fun W (hW : Ext w W) => len_any x s m W (hS.ext hW))
  have HK := Lib.hid (show askN t s.size G ats = if chkN t ≠ 0 then chkN t else if outB s.size ats = true ∨ G < 0 ∨ 999 < G then 15 else 0 from rfl)
  obtain ⟨gx, hxv⟩ : ∃ gx, x = .pointer (some ⟨gx, 0, none⟩) := by obtain ⟨g, _, h, _⟩ := hS; exact ⟨g, h⟩
  subst hxv
  obtain ⟨SA, sc, rfl, hsa⟩ := ha
  have HSA := Lib.hid hsa
  clear hn hS hE hm hfew hsa
  generalize askN t s.size G ats = res at *
  generalize chkN t = ck at *
  generalize t.h = h at *
  unfold errV at v14
  go_enter Tryz.func23, Tryz.ntmps23
  go_upto_region 1 with (refine wpl_boxNd rfl _ rfl h _ rfl ?_; intro z w1 hb hx1 ez sz)
  by_cases h0 : ck = 0
  case neg =>
    have FIN : Hid (res = ck) := Lib.hid (by rw [HK.out, if_pos h0])
    have NZ := Lib.hid h0
    have he : errR A ck = errV (A (ck - 1)) := by unfold errR; rw [if_neg h0]
    rw [he] at HC
    unfold errV at HC
    clear HK h0 he HL v14
    go_wp2_with (first
      | (refine wpl_loadNd rfl _ rfl z 0 h _ rfl hb.nd ?_)
      | (go_at_call 42; refine (HC.out _ hx1).mono ?_; rintro e w3 ⟨rfl, hx3⟩))
    go_ret2
    exact .inl ⟨by rw [FIN.out]; exact NZ.out, by rw [FIN.out]; rfl, hx1.trans hx3⟩
  have HK1 : Hid (res = if outB s.size ats = true ∨ G < 0 ∨ 999 < G then 15 else 0) := Lib.hid (by rw [HK.out, if_neg (by omega)])
  have he : errR A ck = .nilIface := by rw [h0]; rfl
  rw [he] at HC
  clear HK h0 he
  go_upto_region 4 with (first
    | (refine wpl_loadNd rfl _ rfl z 0 h _ rfl hb.nd ?_)
    | (go_at_call 42; refine (HC.out _ hx1).mono ?_; rintro e w3 ⟨rfl, hx3⟩))
  have HX := Lib.hid (hx1.trans hx3)
  have v14' := (hx1.trans hx3).cell v14
  have HLE := Lib.hid hal
  clear hb hx1 ez sz hx3 v14 HC
  have FAIL : Hid (∀ W e, e = Ending.returned (.tuple #[.pointer none, .iface 142 (.pointer (some (A 14)))]) → Ext w W → res = 15 → AskR w (.pointer (some ⟨gx, 0, none⟩)) (s.size / 64 + 1) res G A e W) := Lib.hid (fun W e h1 h2 h3 => .inl ⟨by omega, by rw [h1, h3]; rfl, h2⟩)
  go_wp2
  go_loopw [22] (fun iv wr => ∃ k : Nat, k ≤ ats.length ∧ iv = .int .i64 k ∧ wr = w3 ∧ Hid (∀ j (hj : j < ats.length), j < k → 0 ≤ ats[j] ∧ ats[j] ≤ s.size)) (fun iv _ => ats.length - (intOf iv).toNat)
  case atStart => exact ⟨0, Nat.zero_le _, rfl, rfl, Lib.hid (fun j _ h => absurd h (Nat.not_lt_zero _))⟩
  case round =>
    obtain ⟨k, hk, rfl, rfl, HG⟩ := hrel
    by_cases hlt : k < ats.length
    · have q9 : (k : Int) < (ats.length : Int) := by omega
      obtain ⟨g0, o0, rfl, hc⟩ := HSA.out k hlt
      have hc' := HX.out.cell hc
      have HIN := Lib.hid (List.getElem_mem hlt)
      have HAT : Hid (∀ i, i = ats[k] → (i < 0 ∨ (s.size : Int) < i) → res = 15) := Lib.hid (fun i hi hh => by
        rw [HK1.out, if_pos]
        refine .inl ?_
        unfold outB
        rw [List.any_eq_true]
        refine ⟨ats[k], HIN.out, ?_⟩
        rw [← hi]
        simp only [Bool.or_eq_true, decide_eq_true_eq]
        exact hh)
      have HGN : Hid (∀ i, i = ats[k] → 0 ≤ i → i ≤ s.size → ∀ j (hj : j < ats.length), j < k + 1 → 0 ≤ ats[j] ∧ ats[j] ≤ s.size) := Lib.hid (fun i hi h1 h2 j hj hjk => by
        by_cases e : j = k
        · subst e; rw [← hi]; exact ⟨h1, h2⟩
        · exact HG.out j hj (by omega))
      clear hc HG
      have HLx := Lib.hid (HL.out _ HX.out)
      generalize hat : ats[k] = i at *
      have HA2 := Lib.hid (HAT.out i rfl)
      have HG2 := Lib.hid (HGN.out i rfl)
      clear HAT HGN HIN hat
      by_cases c1 : i < 0
      · have FIN := Lib.hid (HA2.out (.inl c1))
        clear HA2 HG2
        go_upto_region 8 with (go_at_call 24; refine HLx.out.mono ?_; rintro e w4 ⟨rfl, rfl⟩)
        go_region
        all_goals go_wp2
        all_goals go_ret2
        all_goals exact FAIL.out _ _ rfl (HX.out.drew) FIN.out
      by_cases c2 : (s.size : Int) < i
      · have FIN := Lib.hid (HA2.out (.inr c2))
        clear HA2 HG2
        go_upto_region 8 with (go_at_call 24; refine HLx.out.mono ?_; rintro e w4 ⟨rfl, rfl⟩)
        go_region
        all_goals go_wp2
        all_goals go_ret2
        all_goals exact FAIL.out _ _ rfl (HX.out.drew) FIN.out
      have HG3 := Lib.hid (HG2.out (by omega) (by omega))
      clear HA2 HG2
      go_wp2_with (go_at_call 24; refine HLx.out.mono ?_; rintro e w4 ⟨rfl, rfl⟩)
      go_roundw
      case rel => exact ⟨k + 1, hlt, by go_num, by simp, HG3⟩
      case measure => simp [intOf]; omega
    · have q9 : ¬ (k : Int) < (ats.length : Int) := by omega
      have hob : outB s.size ats = false := by
        unfold outB
        rw [List.any_eq_false]
        intro i hi
        obtain ⟨j, hj, rfl⟩ := List.getElem_of_mem hi
        have := HG.out j hj (by omega)
        simp only [Bool.or_eq_true, decide_eq_true_eq]
        omega
      have HK2 : Hid (res = if G < 0 ∨ 999 < G then 15 else 0) := Lib.hid (by rw [HK1.out, hob]; simp)
      clear HG HK1 hob
      by_cases c1 : G < 0
      · have FIN : Hid (res = 15) := Lib.hid (by rw [HK2.out, if_pos (.inl c1)])
        clear HK2
        go_upto_region 11 with fail
        go_region
        all_goals go_wp2
        all_goals go_ret2
        all_goals exact FAIL.out _ _ rfl (HX.out.drew) FIN.out
      by_cases c2 : 999 < G
      · have FIN : Hid (res = 15) := Lib.hid (by rw [HK2.out, if_pos (.inr c2)])
        clear HK2
        go_upto_region 11 with fail
        go_region
        all_goals go_wp2
        all_goals go_ret2
        all_goals exact FAIL.out _ _ rfl (HX.out.drew) FIN.out
      have FIN : Hid (res = 0) := Lib.hid (by rw [HK2.out, if_neg (by omega)])
      clear HK2 FAIL v14'
      obtain ⟨gn, rfl⟩ := Int.eq_ofNat_of_zero_le (show 0 ≤ G by omega)
      have q1 : IntKind.i64.wrap ((gn : Int) + 1) = ((gn + 1 : Nat) : Int) := by rw [IntKind.wrap_i64]; omega
      go_upto_region 12 with fail
      have hx0 : Hid (Ext wr wr) := Lib.hid (Ext.refl _)
      go_cut [13] (fun v wx => ∃ ge g, v = .pointer (some ⟨ge, 0, none⟩) ∧ EnSp wx ge (.pointer (some ⟨gx, 0, none⟩)) (s.size / 64 + 1) g (gn + 1) (gn + 1) ∧ OwnSp wx w.heap.size (.slice (some ⟨g, 0, none⟩) (gn + 1) (gn + 1)) (List.replicate (gn + 1) (0, 0)) ∧ ge ≠ g ∧ w.heap.size ≤ g ∧ Ext wr wx)
      case first =>
        refine wp_region_predz 43 8 [fun v _ => v = .pointer (some ⟨gx, 0, none⟩), fun v _ => v = .pointer (some ⟨gx, 0, none⟩), fun v _ => v = .int .i64 s.size, fun v _ => v = .int .i64 ((s.size : Int) / 64), fun v _ => v = .int .i64 ((s.size : Int) / 64 + 1), fun v _ => v = .int .i64 gn, fun v _ => v = .int .i64 ((gn : Int) + 1), fun v W' => ∃ g, v = .slice (some ⟨g, 0, none⟩) (gn + 1) (gn + 1) ∧ w.heap.size ≤ g ∧ OwnSp W' w.heap.size (.slice (some ⟨g, 0, none⟩) (gn + 1) (gn + 1)) (List.replicate (gn + 1) (0, 0))] ((Lasts.nil.cons fun (v : Value) V V' hx ⟨g, h1, h2, h3⟩ => ⟨g, h1, h2, OwnR.ext h3 hx⟩).is.is.is.is.is.is.is) (by kernel_rfl) (by kernel_rfl) (by kernel_rfl) (by kernel_rfl) (by kernel_rfl) (by kernel_rfl) (by kernel_rfl) ?_
        intro T hT
        have r6 : List.range 8 = [0, 1, 2, 3, 4, 5, 6, 7] := rfl
        simp only [spliceT, r6, List.map_cons, List.map_nil, List.take_succ_cons, List.take_zero, List.drop_succ_cons, List.drop_zero, List.cons_append, List.nil_append, Nat.reduceAdd] at hT
        simp only [List.take_succ_cons, List.take_zero, List.drop_succ_cons, List.drop_zero, AllS, Nat.reduceAdd]
        refine ⟨⟨?_, ?_, ?_, ?_, ?_, ?_, ?_, ?_, trivial⟩, ?_⟩
        · intro u W' hx hd'
          clear hd'
          rw [hT u]
          go_wp2
          exact stepQ_mk ⟨Ext.refl _, _, by first | (rw [hT]; simp [updN]) | simp [updN], rfl⟩
        · intro u W' hx hd'
          clear hd'
          rw [hT u]
          go_wp2
          exact stepQ_mk ⟨Ext.refl _, _, by first | (rw [hT]; simp [updN]) | simp [updN], rfl⟩
        · intro u W' hx hd'
          have t1 := hd' 1 (mem_of (by kernel_rfl))
          clear hd'
          replace t1 : u 1 = _ := t1
          rw [hT u, t1]
          have HLY := Lib.hid (HL.out W' (HX.out.trans (hx0.out.trans hx)))
          go_wp2_with (go_at_call 24; refine HLY.out.mono ?_; rintro e w6 ⟨rfl, rfl⟩)
          exact stepQ_mk ⟨Ext.refl _, _, by first | (rw [hT]; simp [updN, t1]) | simp [updN, t1], rfl⟩
        · intro u W' hx hd'
          have t2 := hd' 2 (mem_of (by kernel_rfl))
          clear hd'
          replace t2 : u 2 = _ := t2
          rw [hT u, t2]
          go_wp2
          exact stepQ_mk ⟨Ext.refl _, _, by first | (rw [hT]; simp [updN, t2]) | simp [updN, t2], rfl⟩
        · intro u W' hx hd'
          have t3 := hd' 3 (mem_of (by kernel_rfl))
          clear hd'
          replace t3 : u 3 = _ := t3
          rw [hT u, t3]
          go_wp2
          exact stepQ_mk ⟨Ext.refl _, _, by first | (rw [hT]; simp [updN, t3]) | simp [updN, t3], rfl⟩
        · intro u W' hx hd'
          clear hd'
          rw [hT u]
          go_wp2
          exact stepQ_mk ⟨Ext.refl _, _, by first | (rw [hT]; simp [updN]) | simp [updN], rfl⟩
        · intro u W' hx hd'
          have t5 := hd' 5 (mem_of (by kernel_rfl))
          clear hd'
          replace t5 : u 5 = _ := t5
          rw [hT u, t5]
          go_wp2
          exact stepQ_mk ⟨Ext.refl _, _, by first | (rw [hT]; simp [updN, t5]) | simp [updN, t5], rfl⟩
        · intro u W' hx hd'
          have t6 := hd' 6 (mem_of (by kernel_rfl))
          clear hd'
          replace t6 : u 6 = _ := t6
          rw [hT u, t6]
          have HSZ := Lib.hid (HX.out.trans (hx0.out.trans hx)).size
          go_wp2_with (refine wpList_makeR rfl _ _ _ rfl w.heap.size 52 [.int .i64 0, .int .i64 0] 2 16 Tryz.underlying36 info_spZ2 rfl (by decide) (gn + 1) rfl rfl (by omega) (by omega) HSZ.out ?_; intro g6 w6 hO6 hx6 eg6 sg6)
          exact stepQ_mk ⟨hx6, _, by first | (rw [hT]; simp [updN, t6]) | simp [updN, t6], ⟨g6, rfl, by rw [← eg6]; exact HSZ.out, own_zero hO6⟩⟩
        · intro u W' hx hp
          have t0 : u 0 = _ := hp 0 (by omega)
          have t4 : u 4 = _ := hp 4 (by omega)
          obtain ⟨g, t7, hg, hO⟩ := hp 7 (by omega)
          clear hp
          rw [hT u, t0, t4, t7]
          clear hT t0 t4 t7
          have HXX := Lib.hid hx
          have HO := Lib.hid hO
          have HG := Lib.hid hg
          clear hO hg hx
          go_wp2
          have e1 : ((s.size : Int) / 64 + 1) = ((s.size / 64 + 1 : Nat) : Int) := by omega
          rw [e1]
          have hB := Blk.new W' 93 #[.pointer (some ⟨gx, 0, none⟩), .int .i64 ((s.size / 64 + 1 : Nat) : Int), .slice (some ⟨g, 0, none⟩) (gn + 1) (gn + 1)]
          go_meet
          case rel => exact ⟨W'.heap.size, g, rfl, hB, OwnR.ext HO.out ((Ext.refl W').alloc _), fun e => (by have h1 := ownS_lt HO.out; omega), HG.out, HXX.out.alloc _⟩
      obtain ⟨ge, g, rfl, hE, hO, hne, hg, hx2⟩ := hcut
      obtain ⟨w2, hw2⟩ : ∃ w, w = wc := ⟨_, rfl⟩
      subst hw2
      have hxw := HX.out.trans hx2
      have HXW := Lib.hid hxw
      have e2 : w2.cell? ⟨ge, 2, none⟩ = some (.slice (some ⟨g, 0, none⟩) (gn + 1) (gn + 1)) := hE.cell 2
      have HE := Lib.hid hE
      have HO := Lib.hid hO
      have HG := Lib.hid hg
      have HNE := Lib.hid hne
      have hk44 : Keeps (· = g) w2 w2 := Keeps.refl _ _
      clear hxw hx2 hE hO hg hne q9 hlt hk HL HX HSA
      go_wp2
      go_loopw [58] (fun i wr => ∃ (k : Nat), k ≤ gn + 1 ∧ i = .int .i64 k ∧ OwnSp wr w.heap.size (.slice (some ⟨g, 0, none⟩) (gn + 1) (gn + 1)) (List.replicate k (-1, -1) ++ List.replicate (gn + 1 - k) (0, 0)) ∧ Keeps (· = g) w2 wr) (fun i _ => gn + 1 - (intOf i).toNat)
      case atStart => exact ⟨0, Nat.zero_le _, rfl, HO.out, hk44⟩
      case round =>
        clear hk44
        obtain ⟨k, hk, rfl, hO, hkr⟩ := hrel
        have e2' := cell_keeps e2 hkr HNE.out
        by_cases hlt : k < gn + 1
        · have HST := Lib.hid (rep_set k (gn + 1) hlt)
          have HLL : Hid (k < (List.replicate k ((-1 : Int), (-1 : Int)) ++ List.replicate (gn + 1 - k) (0, 0)).length) := Lib.hid (by simp; omega)
          generalize (List.replicate k ((-1 : Int), (-1 : Int)) ++ List.replicate (gn + 1 - k) (0, 0)) = lk at *
          have d1 : (k : Int) < ((gn + 1 : Nat) : Int) := by omega
          clear e2
          go_wp2_with (refine wpl_setSp rfl _ _ rfl rfl w.heap.size g _ (gn + 1) lk k (-1, -1) rfl rfl hO HLL.out ?_; intro w6 hO6 hk6)
          go_roundw
          case rel => exact ⟨k + 1, by omega, by go_num, by rw [← HST.out]; exact hO6, hkr.trans hk6 (fun _ _ e => e)⟩
          case measure => simp [intOf]; omega
        · have hkk : k = gn + 1 := by omega
          have he : (List.replicate k ((-1 : Int), (-1 : Int)) ++ List.replicate (gn + 1 - k) (0, 0)) = List.replicate (gn + 1) (-1, -1) := by rw [hkk, Nat.sub_self]; simp
          rw [he] at hO
          have d1 : ¬ (k : Int) < ((gn + 1 : Nat) : Int) := by omega
          clear he hkk hk e2
          go_wp2
          go_ret2
          refine .inr ⟨FIN.out, ge, g, rfl, ?_⟩
          rw [Int.toNat_natCast]
          exact ⟨HE.out.keeps hkr HNE.out, hO, HNE.out, HG.out, HXW.out.keep1 hkr HG.out⟩

end Go.Proofs.YtgfknlkpdiejgaaGreatDoor

namespace Go.Proofs.YtgfknlkpdiejgaaGreatDoor
open Go Go.RowKit
section
variable {W : World} {x : Value} {s : ByteArray} {m : List UInt8} {nw ge g c B : Nat}
set_option maxRecDepth 100000 in
set_option maxHeartbeats 16000000 in
theorem told_any (t : Nd) (svn : Value) (w : World) (l : List (Int × Int)) (a b : Nat) (hge : ge ≠ g) (hg : W.heap.size ≤ g) (hS : IsScene W x s m) (hT : Tab W) (hnw : s.size / 64 < nw) (hnn : nw ≤ 1000000) (hss : s.size ≤ 1000000) (hm : m.length ≤ 10000000) (hN : NdCap W t svn) (hf : formB t = true) (hsm : smallN t) (hx : Ext W w) (hE : EnSp w ge x nw g l.length c) (hO : OwnSp w B (.slice (some ⟨g, 0, none⟩) l.length c) l) (hl : 0 < l.length) (ht : tkN (lfM s m) t a b) (hb : b ≤ s.size) :
    Calls Tryz.prog 28 #[.pointer (some ⟨ge, 0, none⟩), nodeV t.h svn, .int .i64 a, .int .i64 b] w fun r w' => r = .returned (.slice (some ⟨g, 0, none⟩) l.length c) ∧ OwnSp w' B (.slice (some ⟨g, 0, none⟩) l.length c) ((walkN (bestN (lfM s m) t a b) t l).set 0 (a, b)) ∧ Ext W w' := by
  have hgl := ownS_lt hO
  have HL := Lib.hid (fun w' z (hx' : Ext w w') (hz : NdAt w' z 0 t.h svn) (hzg : z ≠ g) => lay_any hge hg hS hT hnw hnn hss hm t svn w' l a b z 0 hN hz hzg hf hsm (hx.trans hx') (Blk.ext hE hx') (OwnR.ext hO hx') ht hb)
  have HWL : Hid ((walkN (bestN (lfM s m) t a b) t l).length = l.length) := Lib.hid (walkN_len _ _ _)
  have HE := Lib.hid hE
  have HX := Lib.hid hx
  have HG := Lib.hid hg
  clear hS hT hnw hnn hss hm hN hf hsm hx hE hO ht hb hg
  generalize walkN (bestN (lfM s m) t a b) t l = lw at *
  generalize t.h = h at *
  obtain ⟨n, hn⟩ : ∃ n, n = l.length := ⟨_, rfl⟩
  rw [← hn] at HL HWL hl HE
  rw [← hn]
  have HN := Lib.hid hn
  clear hn
  go_enter Tryz.func28, Tryz.ntmps28
  go_upto_region 1 with (refine wpl_boxNd rfl _ rfl h _ rfl ?_; intro z w1 hb hx1 ez sz)
  have HC := Lib.hid (HL.out w1 z hx1 hb.nd (by omega))
  have HE1 : Hid (EnSp w1 ge x nw g n c) := Lib.hid (Blk.ext HE.out hx1)
  clear HL HE
  go_upto_region 2 with (go_at_call 55; refine HC.out.mono ?_; rintro e w2 ⟨rfl, hO2, hk2⟩)
  have hE2 : EnSp w2 ge x nw g n c := HE1.out.keeps hk2 hge
  have hx2 := (HX.out.trans hx1).keep1 hk2 HG.out
  have e2 : w2.cell? ⟨ge, 2, none⟩ = some (.slice (some ⟨g, 0, none⟩) n c) := hE2.cell 2
  have HLW : Hid (0 < lw.length) := Lib.hid (by rw [HWL.out]; exact hl)
  have HX2 := Lib.hid hx2
  clear hx2 hE2 HE1 hk2 hb hx1 ez sz HC
  go_wp2_with (refine wpl_setSp rfl _ _ rfl rfl B g _ c lw 0 ((a : Int), (b : Int)) rfl rfl hO2 HLW.out ?_; intro w3 hO3 hk3; replace e2 := cell_keeps e2 hk3 hge)
  go_ret
  exact ⟨rfl, hO3, HX2.out.keep1 hk3 HG.out⟩
end

end Go.Proofs.YtgfknlkpdiejgaaGreatDoor

namespace Go.Proofs.YtgfknlkpdiejgaaGreatDoor
open Go Go.RowKit

theorem rdi_new {w : World} {t : TypeId} {cs : Array Value} {l : List Int} (h : cs = (l.map (Value.int .i64)).toArray) : RdJ (w.alloc (.cells cs t)) (.slice (some ⟨w.heap.size, 0, none⟩) l.length l.length) l := by
  refine ⟨_, _, rfl, fun j hj => ⟨w.heap.size, 0, rfl, ?_⟩⟩
  have hB := Blk.new w t cs
  have := hB.cell j
  rw [Nat.zero_add, this, h]
  simp [hj]
/-- What Find and Spans answer. -/
def FndR (w : World) (k : Nat) (o : Option (List (Int × Int))) (A : Nat → Addr) (r : Ending) (w' : World) : Prop :=
  (k ≠ 0 ∧ r = .returned (.tuple #[.slice none 0 0, .bool false, errV (A (k - 1))]) ∧ Ext w w') ∨
  (k = 0 ∧ o = none ∧ r = .returned (.tuple #[.slice none 0 0, .bool false, .nilIface]) ∧ Ext w w') ∨
  (k = 0 ∧ ∃ l g c, o = some l ∧ r = .returned (.tuple #[.slice (some ⟨g, 0, none⟩) l.length c, .bool true, .nilIface]) ∧ OwnSp w' w.heap.size (.slice (some ⟨g, 0, none⟩) l.length c) l ∧ Ext w w')

section
variable {s : ByteArray} {m : List UInt8} {x : Value}
theorem out_one {n : Nat} {i : Int} (h : outB n [i] = false) : 0 ≤ i ∧ i ≤ n := by
  unfold outB at h
  simp only [List.any_cons, List.any_nil, Bool.or_false, Bool.or_eq_false_iff, decide_eq_false_iff_not] at h
  omega
theorem out_two {n : Nat} {i j : Int} (h : outB n [i, j] = false) : (0 ≤ i ∧ i ≤ n) ∧ 0 ≤ j ∧ j ≤ n := by
  unfold outB at h
  simp only [List.any_cons, List.any_nil, Bool.or_false, Bool.or_eq_false_iff, decide_eq_false_iff_not] at h
  omega
/-- What the engine's parts tell from a place. -/
theorem told_from (t : Nd) (svn : Value) (a b gn ge g : Nat) (w W : World) (lim : Int) (hn : NdCap w t svn) (hS : IsScene w x s m) (hT : Tab w) (hlim : lim ≤ 1000000) (hfew : 0 ≤ leftN t lim) (hs : s.size ≤ 1000000) (hm : m.length ≤ 10000000) (hf : formB t = true) (hx : Ext w W) (hE : EnSp W ge x (s.size / 64 + 1) g (gn + 1) (gn + 1)) (hO : OwnSp W w.heap.size (.slice (some ⟨g, 0, none⟩) (gn + 1) (gn + 1)) (List.replicate (gn + 1) (-1, -1))) (hne : ge ≠ g) (hg : w.heap.size ≤ g) (ht : tkN (lfM s m) t a b) (hb : b ≤ s.size) :
    Calls Tryz.prog 28 #[.pointer (some ⟨ge, 0, none⟩), nodeV t.h svn, .int .i64 a, .int .i64 b] W fun r w' => r = .returned (.slice (some ⟨g, 0, none⟩) (toldN (lfM s m) t a b gn).length (gn + 1)) ∧ OwnSp w' w.heap.size (.slice (some ⟨g, 0, none⟩) (toldN (lfM s m) t a b gn).length (gn + 1)) (toldN (lfM s m) t a b gn) ∧ Ext w w' := by
  have h := told_any (W := w) (x := x) (s := s) (m := m) (nw := s.size / 64 + 1) (ge := ge) (g := g) (c := gn + 1) (B := w.heap.size) t svn W (List.replicate (gn + 1) (-1, -1)) a b hne hg hS hT (by omega) (by omega) hs hm hn hf (small_left t lim hlim hfew) hx (by rw [List.length_replicate]; exact hE) (by rw [List.length_replicate]; exact hO) (by rw [List.length_replicate]; omega) ht hb
  rw [List.length_replicate] at h
  rw [toldN_len]
  exact h

set_option maxRecDepth 100000 in
set_option maxHeartbeats 16000000 in
theorem find_any (t : Nd) (svn : Value) (fr G : Int) (w : World) (A : Nat → Addr) (lim : Int) (hn : NdCap w t svn) (hS : IsScene w x s m) (hT : Tab w) (hE : Err3 w A) (v14 : w.cell? ⟨14, 0, none⟩ = some (errV (A 14))) (hlim : lim ≤ 1000000) (hfew : 0 ≤ leftN t lim) (hs0 : chkN t = 0 → s.size ≤ 1000000 ∧ m.length ≤ 10000000) (hsW : s.size ≤ 200000000000000) :
    Calls Tryz.prog 8 #[nodeV t.h svn, x, .int .i64 fr, .int .i64 G] w (FndR w (askN t s.size G [fr]) (fndL (lfM s m) s.size t fr.toNat G.toNat) A) := by
  have hsm := small_left t lim hlim hfew
  have HA := Lib.hid (fun W (hW : Ext w W) sa (h : RdJ W sa [fr]) => asked_any t svn x sa s m G [fr] W A lim (hn.ok.ext hW) (hS.ext hW) h (hE.ext hW) (hW.cell v14) hlim hfew hsW (by simp))
  have HL := Lib.hid (fun W (hW : Ext w W) => len_any x s m W (hS.ext hW))
  obtain ⟨gx, hxv⟩ : ∃ gx, x = .pointer (some ⟨gx, 0, none⟩) := by obtain ⟨g, _, h, _⟩ := hS; exact ⟨g, h⟩
  subst hxv
  obtain ⟨k, hk⟩ : ∃ k, k = askN t s.size G [fr] := ⟨_, rfl⟩
  rw [← hk] at HA
  rw [← hk]
  by_cases h0 : k = 0
  case neg =>
    have HA1 : Hid (∀ W (_ : Ext w W) sa (_ : RdJ W sa [fr]), Calls Tryz.prog 23 #[nodeV t.h svn, .pointer (some ⟨gx, 0, none⟩), .int .i64 G, sa] W fun r w' => r = .returned (.tuple #[.pointer none, .iface 142 (.pointer (some (A (k - 1))))]) ∧ Ext W w') := Lib.hid (fun W hW sa h => (HA.out W hW sa h).mono fun r w' hr => by
      rcases hr with ⟨_, h2, h3⟩ | ⟨h1, _⟩
      · exact ⟨h2, h3⟩
      · exact absurd h1 h0)
    have FIN : Hid (∀ W e, e = Ending.returned (.tuple #[.slice none 0 0, .bool false, .iface 142 (.pointer (some (A (k - 1))))]) → Ext w W → FndR w k (fndL (lfM s m) s.size t fr.toNat G.toNat) A e W) := Lib.hid (fun W e h1 h2 => .inl ⟨h0, h1, h2⟩)
    generalize fndL (lfM s m) s.size t fr.toNat G.toNat = res at *
    generalize A (k - 1) = aa at *
    generalize t.h = h at *
    clear HA hk h0 hn hS hT hE v14 hlim hfew hs0 hsW HL hsm
    go_enter Tryz.func8, Tryz.ntmps8
    go_upto_region 1 with (refine wpl_boxNd rfl _ rfl h _ rfl ?_; intro z w1 hb hx1 ez sz)
    go_wp2_with (first
      | (refine wpl_loadNd rfl _ rfl z 0 h _ rfl hb.nd ?_)
      | (go_at_call 23; refine (HA1.out _ (hx1.alloc _) _ (rdi_new (l := [fr]) rfl)).mono ?_; rintro e w3 ⟨rfl, hx3⟩))
    go_ret3
    exact FIN.out _ _ rfl ((hx1.alloc _).trans hx3)
  obtain ⟨h1, h2, h3, h4⟩ := ask_ok (hk.symm.trans h0)
  obtain ⟨hs, hm⟩ := hs0 h1
  have hf := (chk_ok h1).1
  obtain ⟨gn, rfl⟩ := Int.eq_ofNat_of_zero_le h3
  obtain ⟨i0, rfl⟩ := Int.eq_ofNat_of_zero_le (out_one h2).1
  have hi0 := (out_one h2).2
  simp only [Int.toNat_natCast]
  have HA2 : Hid (∀ W (_ : Ext w W) sa (_ : RdJ W sa [(i0 : Int)]), Calls Tryz.prog 23 #[nodeV t.h svn, .pointer (some ⟨gx, 0, none⟩), .int .i64 gn, sa] W fun r w' => ∃ ge g, r = .returned (.tuple #[.pointer (some ⟨ge, 0, none⟩), .nilIface]) ∧ EnSp w' ge (.pointer (some ⟨gx, 0, none⟩)) (s.size / 64 + 1) g (gn + 1) (gn + 1) ∧ OwnSp w' w.heap.size (.slice (some ⟨g, 0, none⟩) (gn + 1) (gn + 1)) (List.replicate (gn + 1) (-1, -1)) ∧ ge ≠ g ∧ w.heap.size ≤ g ∧ Ext W w') := Lib.hid (fun W hW sa h => (HA.out W hW sa h).mono fun r w' hr => by
    rcases hr with ⟨h5, _⟩ | ⟨_, ge, g, h5, h6, h7, h8, h9, h10⟩
    · exact absurd h0 h5
    · have := hW.size
      exact ⟨ge, g, h5, h6, OwnR.mono h7 hW.size, h8, by omega, h10⟩)
  have HON := Lib.hid (fun ge g i W (h : EnSp W ge (.pointer (some ⟨gx, 0, none⟩)) (s.size / 64 + 1) g (gn + 1) (gn + 1)) (hi : i ≤ s.size) => only_any (.pointer (some ⟨ge, 0, none⟩)) (.pointer (some ⟨gx, 0, none⟩)) (.slice (some ⟨g, 0, none⟩) (gn + 1) (gn + 1)) (s.size / 64 + 1) i W ⟨ge, rfl, h⟩ (by omega) (by omega))
  have HLD := Lib.hid (fun ge g i W v z (hW : Ext w W) (h : EnSp W ge (.pointer (some ⟨gx, 0, none⟩)) (s.size / 64 + 1) g (gn + 1) (gn + 1)) (hi : i ≤ s.size) (hz : NdAt W z 0 t.h svn) (hr : RdP W v (s.size / 64 + 1) (oneP i)) => (lead_any (x := .pointer (some ⟨gx, 0, none⟩)) (s := s) (m := m) (nw := s.size / 64 + 1) (by omega) (by omega) hs hm t hsm (.pointer (some ⟨ge, 0, none⟩)) (.slice (some ⟨g, 0, none⟩) (gn + 1) (gn + 1)) svn v z 0 false (oneP i) W hf ⟨ge, rfl, h⟩ (hS.ext hW) hz (hn.ok.ext hW) (hT.ext hW) hr (PlN.one hi) : Calls Tryz.prog 25 #[.pointer (some ⟨ge, 0, none⟩), .pointer (some ⟨z, 0, none⟩), v, .bool false] W (LdR W (s.size / 64 + 1) v (img (tkN (lfM s m) t) (oneP i)))))
  have HMON := tkN_mon (lfM_ok s m) t
  have HLS := Lib.hid (fun i W v (hi : i ≤ s.size) (hr : RdP W v (s.size / 64 + 1) (img (tkN (lfM s m) t) (oneP i))) => (by
    have h := last_any v v (s.size / 64 + 1) _ _ (i : Int) W hr hr (by omega) (by omega)
    rw [last_end HMON hi (by omega)] at h
    exact h : Calls Tryz.prog 27 #[v, v, .int .i64 i] W fun e w' => e = .returned (.int .i64 (endR s.size (tkN (lfM s m) t) i)) ∧ Ext W w'))
  have HTO := Lib.hid (fun a b ge g W (hx : Ext w W) hE hO hne hg ht hb => told_from (x := .pointer (some ⟨gx, 0, none⟩)) (s := s) (m := m) t svn a b gn ge g w W lim hn hS hT hlim hfew hs hm hf hx hE hO hne hg ht hb)
  have HMN := Lib.hid HMON
  have HFN : Hid (fndL (lfM s m) s.size t i0 gn = (findR s.size (tkN (lfM s m) t) i0).map fun p => toldN (lfM s m) t p.1 p.2 gn) := Lib.hid rfl
  generalize fndL (lfM s m) s.size t i0 gn = res at *
  have HK0 := Lib.hid h0
  have hss := hs
  clear HA hk h0 h1 h2 h3 h4 hn hS hT hE v14 hlim hfew hs hs0 hsW hm hsm HMON hf
  generalize tkN (lfM s m) t = R at *
  generalize hto : toldN (lfM s m) t = TO at *
  clear hto
  generalize t.h = h at *
  go_enter Tryz.func8, Tryz.ntmps8
  go_upto_region 1 with (refine wpl_boxNd rfl _ rfl h _ rfl ?_; intro z w1 hb hx1 ez sz)
  go_upto_region 5 with (first
    | (refine wpl_loadNd rfl _ rfl z 0 h _ rfl hb.nd ?_)
    | (go_at_call 23; refine (HA2.out _ (hx1.alloc _) _ (rdi_new (l := [(i0 : Int)]) rfl)).mono ?_; rintro e w3 ⟨ge, g, rfl, hE3, hO3, hne, hg, hx3⟩))
  have hx03 := (hx1.alloc (.cells #[.int .i64 i0] 3)).trans hx3
  have hbz := (hb.ext ((Ext.refl w1).alloc (.cells #[.int .i64 i0] 3))).ext hx3
  have HBZ := Lib.hid hbz
  have HX3 := Lib.hid hx03
  have HE3 := Lib.hid hE3
  have HO3 := Lib.hid hO3
  have HNE := Lib.hid hne
  have HG := Lib.hid hg
  have HXA : Hid (∀ W, Ext w3 W → Ext w W) := Lib.hid (fun W hW => HX3.out.trans hW)
  have HFI : Hid (∀ W e l c, e = Ending.returned (.tuple #[.slice (some ⟨g, 0, none⟩) l.length c, .bool true, .nilIface]) → OwnSp W w.heap.size (.slice (some ⟨g, 0, none⟩) l.length c) l → Ext w W → res = some l → FndR w k res A e W) := Lib.hid (fun W e l c h1 h2 h3 h4 => .inr (.inr ⟨HK0.out, l, g, c, h4, h1, h2, h3⟩))
  have HFE : Hid (∀ W e, e = Ending.returned (.tuple #[.slice none 0 0, .bool false, .nilIface]) → Ext w W → res = none → FndR w k res A e W) := Lib.hid (fun W e h1 h2 h3 => .inr (.inl ⟨HK0.out, h3, h1, h2⟩))
  clear hx03 hbz hx1 hb ez sz hx3 hE3 hO3 hne hg HA2 HK0
  generalize hn : s.size = n at *
  clear hn
  go_loopw [13] (fun iv wr => ∃ i : Nat, iv = .int .i64 i ∧ i ≤ n + 1 ∧ Ext w3 wr ∧ Hid (findR n R i0 = findR n R i)) (fun iv _ => n + 1 - (intOf iv).toNat)
  case atStart => exact ⟨i0, rfl, by omega, Ext.refl _, Lib.hid rfl⟩
  case round =>
    obtain ⟨i, rfl, hi, hxr, HF⟩ := hrel
    obtain ⟨w4, hw4⟩ : ∃ w, w = wr := ⟨_, rfl⟩
    subst hw4
    have HXR := Lib.hid hxr
    have HLn := Lib.hid (HL.out w4 (HXA.out _ hxr))
    clear hxr
    by_cases hin : i ≤ n
    case neg =>
      have q9 : ¬ ((i : Int) ≤ (n : Int)) := by omega
      have FIN : Hid (res = none) := Lib.hid (by rw [HFN.out, HF.out, find_end (by omega)]; rfl)
      go_wp2_with (go_at_call 24; refine HLn.out.mono ?_; rintro e w5 ⟨rfl, rfl⟩)
      go_ret3
      exact HFE.out _ _ rfl (HXA.out _ HXR.out) FIN.out
    have q9 : (i : Int) ≤ (n : Int) := by omega
    have HON2 := Lib.hid (HON.out ge g i w4 (HE3.out.ext HXR.out) hin)
    have HLD2 := Lib.hid (fun W v (hW : Ext w4 W) hr => HLD.out ge g i W v z (HXA.out _ (HXR.out.trans hW)) (HE3.out.ext (HXR.out.trans hW)) hin (HBZ.out.ext (HXR.out.trans hW)).nd hr)
    have HLS2 := Lib.hid (fun W v hr => HLS.out i W v hin hr)
    rcases endR_cases HMN.out hin with ⟨he, _⟩ | ⟨j, he, ht, hij, hjn, _⟩
    · rw [he] at HLS2
      have HF2 : Hid (findR n R i0 = findR n R (i + 1)) := Lib.hid (by rw [HF.out, find_miss hin he])
      clear he HF
      go_wp2_with (first
        | (go_at_call 24; refine HLn.out.mono ?_; rintro e w5 ⟨rfl, rfl⟩)
        | (go_at_call 27; refine (HLS2.out _ _ hr6).mono ?_; rintro e w7 ⟨rfl, hx7⟩)
        | (go_at_call 25; refine (HLD2.out _ _ hx5 (RdP.of_own ho5)).mono ?_; rintro e w6 ⟨v6, rfl, hx6, hr6, _⟩; obtain ⟨A6, c6, hv6, _⟩ := hr6.shape; subst hv6)
        | (go_at_call 26; refine HON2.out.mono ?_; rintro e w5 ⟨v5, rfl, ho5, hx5⟩; obtain ⟨g5, c5, cur5, hv5, _⟩ := own_words ho5 (Nat.succ_pos _); subst hv5))
      go_roundw
      case rel => exact ⟨i + 1, by go_num, by omega, ((HXR.out.trans hx5).trans hx6).trans hx7, HF2⟩
      case measure => simp [intOf]; omega
    · rw [he] at HLS2
      have HF2 : Hid (res = some (TO i j gn)) := Lib.hid (by rw [HFN.out, HF.out, find_hit hin he]; rfl)
      have HTO2 := Lib.hid (fun W (hW : Ext w4 W) => HTO.out i j ge g W (HXA.out _ (HXR.out.trans hW)) (HE3.out.ext (HXR.out.trans hW)) (OwnR.ext HO3.out (HXR.out.trans hW)) HNE.out HG.out ht hjn)
      clear he HF ht
      have q8 : (0 : Int) ≤ (j : Int) := by omega
      go_upto_region 10 with (first
        | (go_at_call 24; refine HLn.out.mono ?_; rintro e w5 ⟨rfl, rfl⟩)
        | (go_at_call 27; refine (HLS2.out _ _ hr6).mono ?_; rintro e w7 ⟨rfl, hx7⟩)
        | (go_at_call 25; refine (HLD2.out _ _ hx5 (RdP.of_own ho5)).mono ?_; rintro e w6 ⟨v6, rfl, hx6, hr6, _⟩; obtain ⟨A6, c6, hv6, _⟩ := hr6.shape; subst hv6)
        | (go_at_call 26; refine HON2.out.mono ?_; rintro e w5 ⟨v5, rfl, ho5, hx5⟩; obtain ⟨g5, c5, cur5, hv5, _⟩ := own_words ho5 (Nat.succ_pos _); subst hv5))
      have hx47 := (hx5.trans hx6).trans hx7
      have hbz := HBZ.out.ext (HXR.out.trans hx47)
      have HTO3 := Lib.hid (HTO2.out w7 hx47)
      go_wp2_with (first
        | (refine wpl_loadNd rfl _ rfl z 0 h _ rfl hbz.nd ?_)
        | (go_at_call 28; refine HTO3.out.mono ?_; rintro e w8 ⟨rfl, ho8, hx8⟩))
      go_ret3
      exact HFI.out _ _ _ _ rfl ho8 hx8 HF2.out
end

end Go.Proofs.YtgfknlkpdiejgaaGreatDoor
