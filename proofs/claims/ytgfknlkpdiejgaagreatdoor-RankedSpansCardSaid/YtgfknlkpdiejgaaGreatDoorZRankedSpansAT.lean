/- ranked.Find and ranked.Spans as contracts. Conditions: the tree, the scene and the library's table lie in memory; the tree has few nodes; the error values lie where they lie. tree.Copy as a contract: the tree as new memory. Condition: the tree lies in memory, its lists are short. tree.copies, Seq, Rep, Bytes as contracts. Condition: the trees lie in memory, their lists are short. tree.Text as a contract: a text's bytes, one node each. Condition: the text is short. -/
import Derived.Test.YtgfknlkpdiejgaaGreatDoorZRankedSpansAR
import Derived.Test.YtgfknlkpdiejgaaGreatDoorZRankedSpansAS
import Derived.OwnWalk
import Derived.Test.YtgfknlkpdiejgaaGreatDoorZRankedSpansAC
import Derived.Test.YtgfknlkpdiejgaaGreatDoorZRankedSpansAE
import Derived.Test.YtgfknlkpdiejgaaGreatDoorSetC
namespace Go.Proofs.YtgfknlkpdiejgaaGreatDoor
open Go Go.RowKit

theorem rdi_new {w : World} {t : TypeId} {cs : Array Value} {l : List Int} (h : cs = (l.map (Value.int .i64)).toArray) : RdJ (w.alloc (.cells cs t)) (.slice (some ⟨w.heap.size, 0, none⟩) l.length l.length) l := by
  refine ⟨_, _, rfl, fun j hj => ⟨w.heap.size, 0, rfl, ?_⟩⟩
  have hB := Blk.new w t cs
  have := hB.cell j
  rw [Nat.zero_add, this, h]
  simp [hj]
/-- What Find and Spans answer. -/
def FndR (w : World) (k : Nat) (o : Option (List (Int × Int))) (A : Nat → Addr) (r : Ending) (w' : World) : Prop :=
  (k ≠ 0 ∧ r = .returned (.tuple #[.slice none 0 0, .bool false, errV (A (k - 1))]) ∧ Ext w w') ∨
  (k = 0 ∧ o = none ∧ r = .returned (.tuple #[.slice none 0 0, .bool false, .nilIface]) ∧ Ext w w') ∨
  (k = 0 ∧ ∃ l g c, o = some l ∧ r = .returned (.tuple #[.slice (some ⟨g, 0, none⟩) l.length c, .bool true, .nilIface]) ∧ OwnSp w' w.heap.size (.slice (some ⟨g, 0, none⟩) l.length c) l ∧ Ext w w')

section
variable {s : ByteArray} {m : List UInt8} {x : Value}
theorem out_one {n : Nat} {i : Int} (h : outB n [i] = false) : 0 ≤ i ∧ i ≤ n := by
  unfold outB at h
  simp only [List.any_cons, List.any_nil, Bool.or_false, Bool.or_eq_false_iff, decide_eq_false_iff_not] at h
  omega
theorem out_two {n : Nat} {i j : Int} (h : outB n [i, j] = false) : (0 ≤ i ∧ i ≤ n) ∧ 0 ≤ j ∧ j ≤ n := by
  unfold outB at h
  simp only [List.any_cons, List.any_nil, Bool.or_false, Bool.or_eq_false_iff, decide_eq_false_iff_not] at h
  omega
/-- What the engine's parts tell from a place. -/
theorem told_from (t : Nd) (svn : Value) (a b gn ge g : Nat) (w W : World) (lim : Int) (hn : NdCap w t svn) (hS : IsScene w x s m) (hT : Tab w) (hlim : lim ≤ 1000000) (hfew : 0 ≤ leftN t lim) (hs : s.size ≤ 1000000) (hm : m.length ≤ 10000000) (hf : formB t = true) (hx : Ext w W) (hE : EnSp W ge x (s.size / 64 + 1) g (gn + 1) (gn + 1)) (hO : OwnSp W w.heap.size (.slice (some ⟨g, 0, none⟩) (gn + 1) (gn + 1)) (List.replicate (gn + 1) (-1, -1))) (hne : ge ≠ g) (hg : w.heap.size ≤ g) (ht : tkN (lfM s m) t a b) (hb : b ≤ s.size) :
    Calls Tryz.prog 28 #[.pointer (some ⟨ge, 0, none⟩), nodeV t.h svn, .int .i64 a, .int .i64 b] W fun r w' => r = .returned (.slice (some ⟨g, 0, none⟩) (toldN (lfM s m) t a b gn).length (gn + 1)) ∧ OwnSp w' w.heap.size (.slice (some ⟨g, 0, none⟩) (toldN (lfM s m) t a b gn).length (gn + 1)) (toldN (lfM s m) t a b gn) ∧ Ext w w' := by
  have h := told_any (W := w) (x := x) (s := s) (m := m) (nw := s.size / 64 + 1) (ge := ge) (g := g) (c := gn + 1) (B := w.heap.size) t svn W (List.replicate (gn + 1) (-1, -1)) a b hne hg hS hT (by omega) (by omega) hs hm hn hf (small_left t lim hlim hfew) hx (by rw [List.length_replicate]; exact hE) (by rw [List.length_replicate]; exact hO) (by rw [List.length_replicate]; omega) ht hb
  rw [List.length_replicate] at h
  rw [toldN_len]
  exact h

set_option maxRecDepth 100000 in
set_option maxHeartbeats 16000000 in
theorem find_any (t : Nd) (svn : Value) (fr G : Int) (w : World) (A : Nat → Addr) (lim : Int) (hn : NdCap w t svn) (hS : IsScene w x s m) (hT : Tab w) (hE : Err3 w A) (v14 : w.cell? ⟨14, 0, none⟩ = some (errV (A 14))) (hlim : lim ≤ 1000000) (hfew : 0 ≤ leftN t lim) (hs0 : chkN t = 0 → s.size ≤ 1000000 ∧ m.length ≤ 10000000) (hsW : s.size ≤ 200000000000000) :
    Calls Tryz.prog 8 #[nodeV t.h svn, x, .int .i64 fr, .int .i64 G] w (FndR w (askN t s.size G [fr]) (fndL (lfM s m) s.size t fr.toNat G.toNat) A) := by
  have hsm := small_left t lim hlim hfew
  have HA := Lib.hid (fun W (hW : Ext w W) sa (h : RdJ W sa [fr]) => asked_any t svn x sa s m G [fr] W A lim (hn.ok.ext hW) (hS.ext hW) h (hE.ext hW) (hW.cell v14) hlim hfew hsW (by simp))
  have HL := Lib.hid (fun W (hW : Ext w W) => len_any x s m W (hS.ext hW))
  obtain ⟨gx, hxv⟩ : ∃ gx, x = .pointer (some ⟨gx, 0, none⟩) := by obtain ⟨g, _, h, _⟩ := hS; exact ⟨g, h⟩
  subst hxv
  obtain ⟨k, hk⟩ : ∃ k, k = askN t s.size G [fr] := ⟨_, rfl⟩
  rw [← hk] at HA
  rw [← hk]
  by_cases h0 : k = 0
  case neg =>
    have HA1 : Hid (∀ W (_ : Ext w W) sa (_ : RdJ W sa [fr]), Calls Tryz.prog 23 #[nodeV t.h svn, .pointer (some ⟨gx, 0, none⟩), .int .i64 G, sa] W fun r w' => r = .returned (.tuple #[.pointer none, .iface 142 (.pointer (some (A (k - 1))))]) ∧ Ext W w') := Lib.hid (fun W hW sa h => (HA.out W hW sa h).mono fun r w' hr => by
      rcases hr with ⟨_, h2, h3⟩ | ⟨h1, _⟩
      · exact ⟨h2, h3⟩
      · exact absurd h1 h0)
    have FIN : Hid (∀ W e, e = Ending.returned (.tuple #[.slice none 0 0, .bool false, .iface 142 (.pointer (some (A (k - 1))))]) → Ext w W → FndR w k (fndL (lfM s m) s.size t fr.toNat G.toNat) A e W) := Lib.hid (fun W e h1 h2 => .inl ⟨h0, h1, h2⟩)
    generalize fndL (lfM s m) s.size t fr.toNat G.toNat = res at *
    generalize A (k - 1) = aa at *
    generalize t.h = h at *
    clear HA hk h0 hn hS hT hE v14 hlim hfew hs0 hsW HL hsm
    go_enter Tryz.func8, Tryz.ntmps8
    go_upto_region 1 with (refine wpl_boxNd rfl _ rfl h _ rfl ?_; intro z w1 hb hx1 ez sz)
    go_wp2_with (first
      | (refine wpl_loadNd rfl _ rfl z 0 h _ rfl hb.nd ?_)
      | (go_at_call 23; refine (HA1.out _ (hx1.alloc _) _ (rdi_new (l := [fr]) rfl)).mono ?_; rintro e w3 ⟨rfl, hx3⟩))
    go_ret3
    exact FIN.out _ _ rfl ((hx1.alloc _).trans hx3)
  obtain ⟨h1, h2, h3, h4⟩ := ask_ok (hk.symm.trans h0)
  obtain ⟨hs, hm⟩ := hs0 h1
  have hf := (chk_ok h1).1
  obtain ⟨gn, rfl⟩ := Int.eq_ofNat_of_zero_le h3
  obtain ⟨i0, rfl⟩ := Int.eq_ofNat_of_zero_le (out_one h2).1
  have hi0 := (out_one h2).2
  simp only [Int.toNat_natCast]
  have HA2 : Hid (∀ W (_ : Ext w W) sa (_ : RdJ W sa [(i0 : Int)]), Calls Tryz.prog 23 #[nodeV t.h svn, .pointer (some ⟨gx, 0, none⟩), .int .i64 gn, sa] W fun r w' => ∃ ge g, r = .returned (.tuple #[.pointer (some ⟨ge, 0, none⟩), .nilIface]) ∧ EnSp w' ge (.pointer (some ⟨gx, 0, none⟩)) (s.size / 64 + 1) g (gn + 1) (gn + 1) ∧ OwnSp w' w.heap.size (.slice (some ⟨g, 0, none⟩) (gn + 1) (gn + 1)) (List.replicate (gn + 1) (-1, -1)) ∧ ge ≠ g ∧ w.heap.size ≤ g ∧ Ext W w') := Lib.hid (fun W hW sa h => (HA.out W hW sa h).mono fun r w' hr => by
    rcases hr with ⟨h5, _⟩ | ⟨_, ge, g, h5, h6, h7, h8, h9, h10⟩
    · exact absurd h0 h5
    · have := hW.size
      exact ⟨ge, g, h5, h6, OwnR.mono h7 hW.size, h8, by omega, h10⟩)
  have HON := Lib.hid (fun ge g i W (h : EnSp W ge (.pointer (some ⟨gx, 0, none⟩)) (s.size / 64 + 1) g (gn + 1) (gn + 1)) (hi : i ≤ s.size) => only_any (.pointer (some ⟨ge, 0, none⟩)) (.pointer (some ⟨gx, 0, none⟩)) (.slice (some ⟨g, 0, none⟩) (gn + 1) (gn + 1)) (s.size / 64 + 1) i W ⟨ge, rfl, h⟩ (by omega) (by omega))
  have HLD := Lib.hid (fun ge g i W v z (hW : Ext w W) (h : EnSp W ge (.pointer (some ⟨gx, 0, none⟩)) (s.size / 64 + 1) g (gn + 1) (gn + 1)) (hi : i ≤ s.size) (hz : NdAt W z 0 t.h svn) (hr : RdP W v (s.size / 64 + 1) (oneP i)) => (lead_any (x := .pointer (some ⟨gx, 0, none⟩)) (s := s) (m := m) (nw := s.size / 64 + 1) (by omega) (by omega) hs hm t hsm (.pointer (some ⟨ge, 0, none⟩)) (.slice (some ⟨g, 0, none⟩) (gn + 1) (gn + 1)) svn v z 0 false (oneP i) W hf ⟨ge, rfl, h⟩ (hS.ext hW) hz (hn.ok.ext hW) (hT.ext hW) hr (PlN.one hi) : Calls Tryz.prog 25 #[.pointer (some ⟨ge, 0, none⟩), .pointer (some ⟨z, 0, none⟩), v, .bool false] W (LdR W (s.size / 64 + 1) v (img (tkN (lfM s m) t) (oneP i)))))
  have HMON := tkN_mon (lfM_ok s m) t
  have HLS := Lib.hid (fun i W v (hi : i ≤ s.size) (hr : RdP W v (s.size / 64 + 1) (img (tkN (lfM s m) t) (oneP i))) => (by
    have h := last_any v v (s.size / 64 + 1) _ _ (i : Int) W hr hr (by omega) (by omega)
    rw [last_end HMON hi (by omega)] at h
    exact h : Calls Tryz.prog 27 #[v, v, .int .i64 i] W fun e w' => e = .returned (.int .i64 (endR s.size (tkN (lfM s m) t) i)) ∧ Ext W w'))
  have HTO := Lib.hid (fun a b ge g W (hx : Ext w W) hE hO hne hg ht hb => told_from (x := .pointer (some ⟨gx, 0, none⟩)) (s := s) (m := m) t svn a b gn ge g w W lim hn hS hT hlim hfew hs hm hf hx hE hO hne hg ht hb)
  have HMN := Lib.hid HMON
  have HFN : Hid (fndL (lfM s m) s.size t i0 gn = (findR s.size (tkN (lfM s m) t) i0).map fun p => toldN (lfM s m) t p.1 p.2 gn) := Lib.hid rfl
  generalize fndL (lfM s m) s.size t i0 gn = res at *
  have HK0 := Lib.hid h0
  have hss := hs
  clear HA hk h0 h1 h2 h3 h4 hn hS hT hE v14 hlim hfew hs hs0 hsW hm hsm HMON hf
  generalize tkN (lfM s m) t = R at *
  generalize hto : toldN (lfM s m) t = TO at *
  clear hto
  generalize t.h = h at *
  go_enter Tryz.func8, Tryz.ntmps8
  go_upto_region 1 with (refine wpl_boxNd rfl _ rfl h _ rfl ?_; intro z w1 hb hx1 ez sz)
  go_upto_region 5 with (first
    | (refine wpl_loadNd rfl _ rfl z 0 h _ rfl hb.nd ?_)
    | (go_at_call 23; refine (HA2.out _ (hx1.alloc _) _ (rdi_new (l := [(i0 : Int)]) rfl)).mono ?_; rintro e w3 ⟨ge, g, rfl, hE3, hO3, hne, hg, hx3⟩))
  have hx03 := (hx1.alloc (.cells #[.int .i64 i0] 3)).trans hx3
  have hbz := (hb.ext ((Ext.refl w1).alloc (.cells #[.int .i64 i0] 3))).ext hx3
  have HBZ := Lib.hid hbz
  have HX3 := Lib.hid hx03
  have HE3 := Lib.hid hE3
  have HO3 := Lib.hid hO3
  have HNE := Lib.hid hne
  have HG := Lib.hid hg
  have HXA : Hid (∀ W, Ext w3 W → Ext w W) := Lib.hid (fun W hW => HX3.out.trans hW)
  have HFI : Hid (∀ W e l c, e = Ending.returned (.tuple #[.slice (some ⟨g, 0, none⟩) l.length c, .bool true, .nilIface]) → OwnSp W w.heap.size (.slice (some ⟨g, 0, none⟩) l.length c) l → Ext w W → res = some l → FndR w k res A e W) := Lib.hid (fun W e l c h1 h2 h3 h4 => .inr (.inr ⟨HK0.out, l, g, c, h4, h1, h2, h3⟩))
  have HFE : Hid (∀ W e, e = Ending.returned (.tuple #[.slice none 0 0, .bool false, .nilIface]) → Ext w W → res = none → FndR w k res A e W) := Lib.hid (fun W e h1 h2 h3 => .inr (.inl ⟨HK0.out, h3, h1, h2⟩))
  clear hx03 hbz hx1 hb ez sz hx3 hE3 hO3 hne hg HA2 HK0
  generalize hn : s.size = n at *
  clear hn
  go_loopw [13] (fun iv wr => ∃ i : Nat, iv = .int .i64 i ∧ i ≤ n + 1 ∧ Ext w3 wr ∧ Hid (findR n R i0 = findR n R i)) (fun iv _ => n + 1 - (intOf iv).toNat)
  case atStart => exact ⟨i0, rfl, by omega, Ext.refl _, Lib.hid rfl⟩
  case round =>
    obtain ⟨i, rfl, hi, hxr, HF⟩ := hrel
    obtain ⟨w4, hw4⟩ : ∃ w, w = wr := ⟨_, rfl⟩
    subst hw4
    have HXR := Lib.hid hxr
    have HLn := Lib.hid (HL.out w4 (HXA.out _ hxr))
    clear hxr
    by_cases hin : i ≤ n
    case neg =>
      have q9 : ¬ ((i : Int) ≤ (n : Int)) := by omega
      have FIN : Hid (res = none) := Lib.hid (by rw [HFN.out, HF.out, find_end (by omega)]; rfl)
      go_wp2_with (go_at_call 24; refine HLn.out.mono ?_; rintro e w5 ⟨rfl, rfl⟩)
      go_ret3
      exact HFE.out _ _ rfl (HXA.out _ HXR.out) FIN.out
    have q9 : (i : Int) ≤ (n : Int) := by omega
    have HON2 := Lib.hid (HON.out ge g i w4 (HE3.out.ext HXR.out) hin)
    have HLD2 := Lib.hid (fun W v (hW : Ext w4 W) hr => HLD.out ge g i W v z (HXA.out _ (HXR.out.trans hW)) (HE3.out.ext (HXR.out.trans hW)) hin (HBZ.out.ext (HXR.out.trans hW)).nd hr)
    have HLS2 := Lib.hid (fun W v hr => HLS.out i W v hin hr)
    rcases endR_cases HMN.out hin with ⟨he, _⟩ | ⟨j, he, ht, hij, hjn, _⟩
    · rw [he] at HLS2
      have HF2 : Hid (findR n R i0 = findR n R (i + 1)) := Lib.hid (by rw [HF.out, find_miss hin he])
      clear he HF
      go_wp2_with (first
        | (go_at_call 24; refine HLn.out.mono ?_; rintro e w5 ⟨rfl, rfl⟩)
        | (go_at_call 27; refine (HLS2.out _ _ hr6).mono ?_; rintro e w7 ⟨rfl, hx7⟩)
        | (go_at_call 25; refine (HLD2.out _ _ hx5 (RdP.of_own ho5)).mono ?_; rintro e w6 ⟨v6, rfl, hx6, hr6, _⟩; obtain ⟨A6, c6, hv6, _⟩ := hr6.shape; subst hv6)
        | (go_at_call 26; refine HON2.out.mono ?_; rintro e w5 ⟨v5, rfl, ho5, hx5⟩; obtain ⟨g5, c5, cur5, hv5, _⟩ := own_words ho5 (Nat.succ_pos _); subst hv5))
      go_roundw
      case rel => exact ⟨i + 1, by go_num, by omega, ((HXR.out.trans hx5).trans hx6).trans hx7, HF2⟩
      case measure => simp [intOf]; omega
    · rw [he] at HLS2
      have HF2 : Hid (res = some (TO i j gn)) := Lib.hid (by rw [HFN.out, HF.out, find_hit hin he]; rfl)
      have HTO2 := Lib.hid (fun W (hW : Ext w4 W) => HTO.out i j ge g W (HXA.out _ (HXR.out.trans hW)) (HE3.out.ext (HXR.out.trans hW)) (OwnR.ext HO3.out (HXR.out.trans hW)) HNE.out HG.out ht hjn)
      clear he HF ht
      have q8 : (0 : Int) ≤ (j : Int) := by omega
      go_upto_region 10 with (first
        | (go_at_call 24; refine HLn.out.mono ?_; rintro e w5 ⟨rfl, rfl⟩)
        | (go_at_call 27; refine (HLS2.out _ _ hr6).mono ?_; rintro e w7 ⟨rfl, hx7⟩)
        | (go_at_call 25; refine (HLD2.out _ _ hx5 (RdP.of_own ho5)).mono ?_; rintro e w6 ⟨v6, rfl, hx6, hr6, _⟩; obtain ⟨A6, c6, hv6, _⟩ := hr6.shape; subst hv6)
        | (go_at_call 26; refine HON2.out.mono ?_; rintro e w5 ⟨v5, rfl, ho5, hx5⟩; obtain ⟨g5, c5, cur5, hv5, _⟩ := own_words ho5 (Nat.succ_pos _); subst hv5))
      have hx47 := (hx5.trans hx6).trans hx7
      have hbz := HBZ.out.ext (HXR.out.trans hx47)
      have HTO3 := Lib.hid (HTO2.out w7 hx47)
      go_wp2_with (first
        | (refine wpl_loadNd rfl _ rfl z 0 h _ rfl hbz.nd ?_)
        | (go_at_call 28; refine HTO3.out.mono ?_; rintro e w8 ⟨rfl, ho8, hx8⟩))
      go_ret3
      exact HFI.out _ _ _ _ rfl ho8 hx8 HF2.out
end

end Go.Proofs.YtgfknlkpdiejgaaGreatDoor

namespace Go.Proofs.YtgfknlkpdiejgaaGreatDoor
open Go Go.RowKit

theorem kids_full {W : World} {B : Nat} {e : TypeId} {v : Value} {l : List Kid} {m : Nat} (h : LstZ W B e v l (List.replicate m zrow)) (hm : m = 0) : LstFp W B e v l := by subst hm; exact h
theorem set_first (l : List Kid) (m : Nat) (r : List Value) : (kidsRow l ++ List.replicate (m + 1) zrow).set l.length r = kidsRow l ++ r :: List.replicate m zrow := by
  rw [List.replicate_succ, List.set_append_right _ _ (by simp [kidsRow])]
  simp [kidsRow]

set_option maxRecDepth 100000 in
set_option maxHeartbeats 4000000 in
theorem copy_any : ∀ (n : Nd) (sv : Value) (w : World), NdOk w n sv → smallN n →
    Calls Tryz.prog 37 #[nodeV n.h sv] w (RetNd w n) := by
  refine Nd.ind fun hd subs ih sv w hn hsm => ?_
  obtain ⟨A, c, rfl⟩ := hn.shape
  obtain ⟨hlen, hsm⟩ := hsm
  have IH := Lib.hid (fun n hm sv w hn => ih n hm sv w hn (smallL_mem hsm n hm))
  have HN := Lib.hid hn
  clear ih hsm hn
  simp only [Nd.h, Nd.subs] at *
  go_enter Tryz.func37, Tryz.ntmps37
  go_upto_region 1 with (first
    | (refine wpl_boxNd rfl _ rfl hd _ rfl ?_; intro b w1 hb hx1 eb sb)
    | (refine wpl_allocNd rfl rfl ?_; intro z w2 hz hx2 ez sz))
  have hx12 := hx1.trans hx2
  have hb2 := hb.ext hx2
  have c5 : w2.cell? ⟨b, 5, none⟩ = some (.slice A subs.length c) := hb2.cell 5
  have hbz : b < z := by omega
  have hwz : w.heap.size ≤ z := by omega
  have hwb : w.heap.size ≤ b := eb
  clear hb hx1 hx2 eb sb
  by_cases h0 : subs.length = 0
  · have hs0 : subs = [] := List.eq_nil_of_length_eq_zero h0
    subst hs0
    simp only [List.length_nil] at *
    go_wp2_with (first
      | (refine wpl_storeSubs rfl _ _ rfl rfl b hd (.slice none 0 0) _ rfl rfl (isSl_mk _ _ _) hb2 ?_; intro w3 hb3 hk3)
      | (refine wpl_loadNd rfl _ rfl b 0 hd _ rfl hb3.nd ?_)
      | (refine wpl_storeNd rfl _ _ rfl rfl z hd _ (.slice none 0 0) _ rfl rfl (isSl_mk _ _ _) (hz.keep1 hk3 (by omega)) ?_; intro w4 hz4 hk4))
    exact ret_nd rfl rfl rfl hz4 ⟨_, rfl, NdNew.nil _ _ _ _ _, (hx12.keep1 hk3 (by omega)).keep1 hk4 hwz⟩
  · go_upto_region 5 with (refine wpList_makeR rfl _ _ _ rfl w2.heap.size 27 zrow 10 96 Tryz.underlying25 info_ndZ rfl (by decide) subs.length rfl rfl (by omega) (by omega) (Nat.le_refl _) ?_; intro g w3 hO hx3 hg hg')
    have hL0 : LstZ w3 w2.heap.size 27 (.slice (some ⟨g, 0, none⟩) subs.length subs.length) [] (List.replicate subs.length zrow) := ⟨hO, (fun _ h => by cases h), List.nodup_nil, (fun _ h => by cases h)⟩
    have c5' := hx3.cell c5
    clear hO
    go_wp2
    clear c5'
    go_loopw [19] (fun i wr => ∃ (k : Nat) (l : List Kid), k ≤ subs.length ∧ i = .int .i64 k ∧ l.map (·.1) = subs.take k ∧ LstZ wr w2.heap.size 27 (.slice (some ⟨g, 0, none⟩) subs.length subs.length) l (List.replicate (subs.length - k) zrow) ∧ Ext w2 wr) (fun i _ => subs.length - (intOf i).toNat)
    case atStart => exact ⟨0, [], Nat.zero_le _, rfl, rfl, hL0, hx3⟩
    case round =>
      clear hL0 hx3
      obtain ⟨k, l, hk, rfl, hl, hL, hx⟩ := hrel
      have HL := Lib.hid hl
      clear hl
      by_cases hlt : k < subs.length
      · obtain ⟨g0, o0, sv, rfl, hat, hok⟩ := HN.out.get k hlt
        have hxw := hx12.trans hx
        replace hat := hat.ext hxw
        have IHk := Lib.hid (fun w' (hw' : Ext wr w') => IH.out subs[k] (List.getElem_mem hlt) sv w' (NdOk.ext (hxw.trans hw') _ _ hok))
        have HM := Lib.hid (show (l.map (·.1)) ++ [subs[k]] = subs.take (k + 1) by rw [HL.out, take_snoc subs k hlt])
        have hll : l.length = k := by have := congrArg List.length HL.out; simp at this; omega
        have HK := Lib.hid hll
        clear IH HN HL hll
        generalize subs[k] = nk at *
        have d1 : (k : Int) < (subs.length : Int) := by omega
        go_wp2_with (first
          | (refine wpl_loadNd rfl _ rfl g0 (o0 + k * 10) nk.h sv rfl hat ?_)
          | (refine wpl_allocNd rfl rfl ?_; intro s w4 hs hx4 es ss)
          | (refine wpl_storeNd rfl _ _ rfl rfl s nk.h _ sv _ rfl rfl hok.sl hs ?_; intro w5 hs5 hk5; have hx5 := hx4.keep1 hk5 es)
          | (refine wpl_loadNd rfl _ rfl s 0 nk.h sv rfl hs5.nd ?_)
          | (go_at_call 37; refine (IHk.out _ hx5).mono ?_; rintro e w6 ⟨sv6, rfl, hn6, hx6⟩)
          | (refine wpl_setNd rfl _ _ rfl rfl w2.heap.size g _ _ _ k nk.h sv6 rfl rfl hn6.ok.sl (hL.ext (hx5.trans hx6)).own (by simp [kidsRow, HK.out]; omega) ?_; intro w7 hO7 hg7))
        have hsz3 := hx.size
        have hsz5 := hx5.size
        obtain ⟨f, hL7⟩ := LstZ.snoc (zs' := List.replicate (subs.length - (k + 1)) zrow) hL (hx5.trans hx6) (by omega) (hn6.mono hsz5) (by
          rw [show subs.length - k = (subs.length - (k + 1)) + 1 by omega] at hO7
          have := set_first l (subs.length - (k + 1)) (nodeC nk.h sv6)
          rw [HK.out] at this
          rw [this] at hO7
          exact hO7) hg7 (.inl rfl)
        have hx7 : Ext w2 w7 := (hx.trans (hx5.trans hx6)).grown hg7 (fun i hi => by injection hi with hi; omega)
        clear hL hx hat hs hx4 es ss hs5 hk5 hx5 hn6 hx6 hO7 hg7 hok c5
        go_roundw
        case rel => exact ⟨k + 1, l ++ [(nk, sv6, f)], by omega, by go_num, by simpa using HM.out, hL7, hx7⟩
        case measure => simp [intOf]; omega
      · have hkl : subs.take k = subs := List.take_of_length_le (by omega)
        rw [hkl] at HL
        have hL2 := kids_full hL (by omega)
        have hb3 := hb2.ext hx
        have hz3 := hz.ext hx
        have c5' := hx.cell c5
        have HN2 := Lib.hid (hL2.node hd)
        rw [HL.out] at HN2
        have hd1 : ¬ (k : Int) < (subs.length : Int) := by omega
        clear hkl hL IH HN HL c5 hL2
        go_wp2_with (first
          | (refine wpl_storeSubs rfl _ _ rfl rfl b hd _ _ rfl rfl (isSl_mk _ _ _) hb3 ?_; intro w4 hb4 hk4)
          | (refine wpl_loadNd rfl _ rfl b 0 hd _ rfl hb4.nd ?_)
          | (refine wpl_storeNd rfl _ _ rfl rfl z hd _ _ _ rfl rfl (isSl_mk _ _ _) (hz3.keep1 hk4 (by omega)) ?_; intro w5 hz5 hk5))
        have hsz := hx.size
        exact ret_nd rfl rfl rfl hz5 ⟨_, rfl, ((HN2.out.keep1 hk4 (by omega)).keep1 hk5 (by omega)).mono (by omega), ((hx12.trans hx).keep1 hk4 (by omega)).keep1 hk5 (by omega)⟩

end Go.Proofs.YtgfknlkpdiejgaaGreatDoor

namespace Go.Proofs.YtgfknlkpdiejgaaGreatDoor
open Go Go.RowKit

/-- What a call that makes a list of trees answers. -/
def RetLs (w : World) (ns : List Nd) (r : Ending) (w' : World) : Prop := ∃ v, r = .returned v ∧ NdNew w.heap.size w' (.mk (hdV 0) ns) v ∧ Ext w w'

set_option maxRecDepth 100000 in
set_option maxHeartbeats 4000000 in
theorem copies_any (ns : List Nd) (lv : Value) (w : World) (hn : NdOk w (.mk (hdV 0) ns) lv) (hsm : smallN (.mk (hdV 0) ns)) :
    Calls Tryz.prog 38 #[lv] w (RetLs w ns) := by
  obtain ⟨A, c, rfl⟩ := hn.shape
  obtain ⟨hlen, hsm⟩ := hsm
  have HC := Lib.hid (fun n (hm : n ∈ ns) sv w hn => copy_any n sv w hn (smallL_mem hsm n hm))
  have HN := Lib.hid hn
  clear hsm hn
  simp only [Nd.subs] at *
  go_enter Tryz.func38, Tryz.ntmps38
  go_upto_region 2 with (refine wpList_makeR0 rfl _ _ _ rfl w.heap.size 27 _ 10 96 Tryz.underlying25 info_ndZ ns.length rfl rfl (by omega) (by omega) (Nat.le_refl _) ?_; intro g w1 hO hx1 hg hg')
  have hL0 : LstFp w1 w.heap.size 27 (.slice (some ⟨g, 0, none⟩) 0 ns.length) [] := ⟨hO, (fun _ h => by cases h), List.nodup_nil, (fun _ h => by cases h)⟩
  clear hO
  go_wp2
  go_loopw [3, 11] (fun v i wr => ∃ (k : Nat) (l : List Kid), k ≤ ns.length ∧ i = .int .i64 k ∧ l.map (·.1) = ns.take k ∧ LstFp wr w.heap.size 27 v l ∧ Ext w wr) (fun _ i _ => ns.length - (intOf i).toNat)
  case atStart => exact ⟨0, [], Nat.zero_le _, rfl, rfl, hL0, hx1⟩
  case round =>
    clear hL0 hx1
    obtain ⟨k, l, hk, rfl, hl, hL, hx⟩ := hrel
    have HL := Lib.hid hl
    clear hl
    by_cases hlt : k < ns.length
    · obtain ⟨g0, o0, sv, rfl, hat, hok⟩ := HN.out.get k hlt
      replace hat := hat.ext hx
      have IHk := Lib.hid (fun w' (hw' : Ext wr w') => HC.out ns[k] (List.getElem_mem hlt) sv w' (NdOk.ext (hx.trans hw') _ _ hok))
      have HM := Lib.hid (show (l.map (·.1)) ++ [ns[k]] = ns.take (k + 1) by rw [HL.out, take_snoc ns k hlt])
      have hll : l.length = k := by have := congrArg List.length HL.out; simp at this; omega
      have hll2 : l.length ≤ 1000000000 := by omega
      clear HC HN HL hll
      generalize ns[k] = nk at *
      have d1 : (k : Int) < (ns.length : Int) := by omega
      go_wp2_with (first
        | (refine wpl_loadNd rfl _ rfl g0 (o0 + k * 10) nk.h sv rfl hat ?_)
        | (refine wpl_allocNd rfl rfl ?_; intro s w4 hs hx4 es ss)
        | (refine wpl_storeNd rfl _ _ rfl rfl s nk.h _ sv _ rfl rfl hok.sl hs ?_; intro w5 hs5 hk5; have hx5 := hx4.keep1 hk5 es)
        | (refine wpl_loadNd rfl _ rfl s 0 nk.h sv rfl hs5.nd ?_)
        | (go_at_call 37; refine (IHk.out _ hx5).mono ?_; rintro e w6 ⟨sv6, rfl, hn6, hx6⟩)
        | (refine wpl_oneNd rfl _ rfl nk.h sv6 rfl ?_; intro g7 w7 hb7 hx7 e7 s7)
        | (refine wpl_appFp rfl _ _ rfl w.heap.size u3 l nk sv6 g7 1 wr rfl rfl hL ((hx5.trans hx6).trans hx7) hx.size ((hn6.ext hx7).mono hx5.size) hb7 hll2 ?_; intro v8 w8 hL8 hx78 hg8))
      have hx8 : Ext w w8 := ext_grown_lst (hx.trans hx78) hL (Nat.le_refl _) hg8
      obtain ⟨f, hL8⟩ := hL8
      clear hL hx hat hs hx4 es ss hs5 hk5 hx5 hn6 hx6 hb7 hx7 hg8 hx78 hok e7 s7
      go_roundw
      case rel => exact ⟨k + 1, l ++ [(nk, sv6, f)], by omega, by go_num, by simpa using HM.out, hL8, hx8⟩
      case measure => simp [intOf]; omega
    · have hkl : ns.take k = ns := List.take_of_length_le (by omega)
      rw [hkl] at HL
      have hd1 : ¬ (k : Int) < (ns.length : Int) := by omega
      have HN2 := Lib.hid (hL.node (hdV 0))
      rw [HL.out] at HN2
      clear hkl HL HN HC
      obtain ⟨A', c', rfl, _⟩ := hL.len
      go_wp2
      go_ret
      exact ⟨_, rfl, HN2.out, hx⟩

set_option maxRecDepth 100000 in
set_option maxHeartbeats 4000000 in
theorem seq_any (ns : List Nd) (lv : Value) (w : World) (hn : NdOk w (.mk (hdV 0) ns) lv) (hsm : smallN (.mk (hdV 0) ns)) :
    Calls Tryz.prog 18 #[lv] w (RetNd w (seqN ns)) := by
  have HCs := Lib.hid (fun W (hW : Ext w W) => copies_any ns lv W (NdOk.ext hW _ _ hn) hsm)
  obtain ⟨A, c, rfl⟩ := hn.shape
  obtain ⟨hlen, hsm⟩ := hsm
  have HC := Lib.hid (fun n (hm : n ∈ ns) sv w hn => copy_any n sv w hn (smallL_mem hsm n hm))
  have HN := Lib.hid hn
  clear hsm hn
  simp only [Nd.subs] at *
  go_enter Tryz.func18, Tryz.ntmps18
  go_upto_region 1 with (refine wpl_allocNd rfl rfl ?_; intro z w2 hz hx2 ez sz)
  match ns, HCs, HC, HN, hlen with
  | [], HCs, HC, HN, hlen =>
    simp only [List.length_nil] at *
    clear HCs HC HN
    go_wp2_with (refine wpl_storeNd rfl _ _ rfl rfl z (hdV 1) _ (.slice none 0 0) _ rfl (node_lit _ _ _ _ _ _) (isSl_mk _ _ _) hz ?_; intro w5 hz5 hk5)
    exact ret_nd rfl rfl rfl hz5 ⟨_, rfl, NdNew.nil _ _ _ _ _, hx2.keep1 hk5 ez⟩
  | [x], HCs, HC, HN, hlen =>
    obtain ⟨g0, o0, sv, rfl, hat, hok⟩ := HN.out.get 0 (by simp)
    have H1 := Lib.hid (HC.out x (by simp) sv w2 (NdOk.ext hx2 _ _ hok))
    simp only [List.getElem_cons_zero, Nat.zero_mul, Nat.add_zero] at hat hok
    replace hat := hat.ext hx2
    simp only [List.length_cons, List.length_nil] at *
    clear HCs HC HN
    go_wp2_with (first
      | (refine wpl_loadNd rfl _ rfl g0 o0 x.h sv rfl hat ?_)
      | (go_at_call 37; refine H1.out.mono ?_; rintro e w6 ⟨sv6, rfl, hn6, hx6⟩)
      | (refine wpl_storeNd rfl _ _ rfl rfl z x.h _ sv6 _ rfl rfl hn6.ok.sl (hz.ext hx6) ?_; intro w5 hz5 hk5))
    have h2 := hx2.size
    exact ret_nd rfl rfl rfl hz5 ⟨_, rfl, (hn6.keep1 hk5 sz).mono h2, (hx2.trans hx6).keep1 hk5 ez⟩
  | x :: y :: r, HCs, HC, HN, hlen =>
    have d0 : 2 ≤ (x :: y :: r).length := by simp
    have H1 := Lib.hid (HCs.out w2 hx2)
    clear HCs HC HN
    have hseq : seqN (x :: y :: r) = .mk (hdV 5) (x :: y :: r) := rfl
    have HQ := Lib.hid hseq
    clear hseq
    generalize hL : (x :: y :: r).length = L at *
    clear hL
    generalize x :: y :: r = ns at *
    have d1 : ((L : Int) == 0) = false := by rw [beq_eq_false_iff_ne]; omega
    have d2 : ((L : Int) == 1) = false := by rw [beq_eq_false_iff_ne]; omega
    have d3 : ¬ L = 0 := by omega
    have d4 : ¬ L = 1 := by omega
    go_wp2_with (first
      | (go_at_call 38; refine H1.out.mono ?_; rintro e w6 ⟨sv6, rfl, hn6, hx6⟩; obtain ⟨A6, n6, c6, rfl⟩ := hn6.ok.sl)
      | (refine wpl_storeNd rfl _ _ rfl rfl z (hdV 5) _ _ _ rfl (node_lit _ _ _ _ _ _) (isSl_mk _ _ _) (hz.ext hx6) ?_; intro w5 hz5 hk5))
    have h2 := hx2.size
    exact ret_nd rfl rfl rfl hz5 ⟨.slice A6 n6 c6, by rw [HQ.out]; rfl, by rw [HQ.out]; exact ((hn6.head (h' := hdV 5)).keep1 hk5 sz).mono h2, (hx2.trans hx6).keep1 hk5 ez⟩

set_option maxRecDepth 100000 in
set_option maxHeartbeats 4000000 in
theorem rep_any (n : Nd) (sv : Value) (mn mx : Int) (w : World) (hn : NdOk w n sv) (hsm : smallN n) :
    Calls Tryz.prog 20 #[nodeV n.h sv, .int .i64 mn, .int .i64 mx] w (RetNd w (.mk ⟨8, noS, 0, mn, mx, false⟩ [n])) := by
  have HC := Lib.hid (fun W (hW : Ext w W) => copy_any n sv W (NdOk.ext hW _ _ hn) hsm)
  have hsl := hn.sl
  clear hn hsm
  go_enter Tryz.func20, Tryz.ntmps20
  go_wp2_with (first
    | (refine wpl_boxNd rfl _ rfl n.h _ rfl ?_; intro b w1 hb hx1 eb sb)
    | (refine wpl_allocNd rfl rfl ?_; intro z w2 hz hx2 ez sz)
    | (refine wpl_loadNd rfl _ rfl b 0 n.h sv rfl (hb.ext hx2).nd ?_)
    | (go_at_call 37; refine (HC.out _ (hx1.trans hx2)).mono ?_; rintro e w6 ⟨sv6, rfl, hn6, hx6⟩)
    | (refine wpl_oneNd rfl _ rfl n.h sv6 rfl ?_; intro g7 w7 hb7 hx7 e7 s7)
    | (refine wpl_storeNd rfl _ _ rfl rfl z ⟨8, noS, 0, mn, mx, false⟩ _ (.slice (some ⟨g7, 0, none⟩) 1 1) _ rfl (node_lit _ _ _ _ _ _) (isSl_mk _ _ _) ((hz.ext hx6).ext hx7) ?_; intro w8 hz8 hk8))
  have h1 := hx1.size
  have h2 := hx2.size
  have h6 := hx6.size
  exact ret_nd rfl rfl rfl hz8 ⟨_, rfl, ((NdNew.one hn6 hx7 hb7 e7 h6 _ 1).keep1 hk8 sz).mono (by omega), ((hx1.trans hx2).trans (hx6.trans hx7)).keep1 hk8 (by omega)⟩

end Go.Proofs.YtgfknlkpdiejgaaGreatDoor

namespace Go.Proofs.YtgfknlkpdiejgaaGreatDoor
open Go Go.RowKit

def leafN (b : Nat) : Nd := .mk ⟨2, fun x => x == b, 0, 0, 0, false⟩ []
def textN (bs : List UInt8) : Nd := seqN (bs.map fun b => leafN b.toNat)
theorem zero_set : (Tryz.prog.info? 24).map (fun i => i.zero) = some (some (.agg (setC fun _ => false))) := by kernel_rfl
theorem wpl_allocSet {ops : Array Oper} {rest : List Oper} {o : Oper} {a : Act} {w : World} {Q : Exit → Act → World → Prop} (hgd : o.guard = none) (ho : o.op = .alloc 24)
    (hK : ∀ g w1, Blk w1 g 24 (setC fun _ => false) → Ext w w1 → w.heap.size ≤ g → g < w1.heap.size → wpList Tryz.prog ops Q rest (a.put o.dst (.pointer (some ⟨g, 0, none⟩))) w1) : wpList Tryz.prog ops Q (o :: rest) a w :=
  wpList_plain hgd fun _ hKK => by
    have hr : (execOp a.eval o).run Tryz.prog w = .ok (.value (.pointer (some ⟨w.heap.size, 0, none⟩))) (w.alloc (.cells (setC fun _ => false) 24)) := by
      unfold execOp
      rw [ho]
      simp [Instr.alloc, newVar, newRow, Value.cells]
      rfl
    unfold Oper.wp
    rw [hr]
    exact hKK _ _ (hK _ _ (Blk.new w _ _) ((Ext.refl w).alloc _) (Nat.le_refl _) (by simp))

set_option maxRecDepth 100000 in
set_option maxHeartbeats 4000000 in
theorem bytes_any (p : Nat → Bool) (w : World) :
    Calls Tryz.prog 36 #[setV p] w (RetNd w (.mk ⟨2, p, 0, 0, 0, false⟩ [])) := by
  unfold setV u64v
  go_enter Tryz.func36, Tryz.ntmps36
  go_upto_region 1 with (refine wpl_allocNd rfl rfl ?_; intro z w2 hz hx2 ez sz)
  have hx := ((Ext.refl w).alloc (.cells #[.int .u64 (wd p 0 : Int), .int .u64 (wd p 1 : Int), .int .u64 (wd p 2 : Int), .int .u64 (wd p 3 : Int)] 24)).trans hx2
  obtain ⟨b0, b1, b2, b3⟩ := box4 hx2
  have hs : w.heap.size ≤ z := by simp at ez; omega
  clear ez
  go_wp2_with (refine wpl_storeNd rfl _ _ rfl rfl z ⟨2, p, 0, 0, 0, false⟩ _ (.slice none 0 0) _ rfl rfl (isSl_mk _ _ _) hz ?_; intro w3 hz3 hk3)
  exact ret_nd rfl rfl rfl hz3 ⟨_, rfl, NdNew.nil _ _ _ _ _, hx.keep1 hk3 hs⟩

theorem one_word (b : Nat) (h : b < 256) : (setC fun _ => false).setIfInBounds (b / 64) (.int .u64 (IntKind.u64.wrap (2 ^ (b % 64)))) = setC (fun x => x == b) := by
  have h1 := setC_ins (fun _ => false) b h
  have e : insB (fun _ => false) b = fun x => x == b := by funext x; simp [insB]
  have h2 : (2 : Nat) ^ (b % 64) < 2 ^ 64 := Nat.pow_lt_pow_right (a := 2) (m := b % 64) (n := 64) (by decide) (by omega)
  have e0 : ((2 : Int) ^ (b % 64)) = ((2 ^ (b % 64) : Nat) : Int) := by rw [Int.natCast_pow]; rfl
  rw [e, wd_none, Nat.zero_or] at h1
  rw [← h1, u64v, e0, IntKind.wrap_u64]
  generalize 2 ^ (b % 64) = y at *
  congr 2
  omega

set_option maxRecDepth 100000 in
set_option maxHeartbeats 4000000 in
theorem text_any (s : ByteArray) (w : World) (hs : s.size ≤ 1000000) :
    Calls Tryz.prog 17 #[.string s] w (RetNd w (textN s.data.toList)) := by
  go_enter Tryz.func17, Tryz.ntmps17
  go_upto_region 1 with (refine wpl_allocNd rfl rfl ?_; intro z w2 hz hx2 ez sz)
  have hL0 : LstFp w2 w2.heap.size 27 (.slice none 0 0) [] := LstFp.nil _ _ _
  have hx22 : Ext w2 w2 := Ext.refl w2
  have h2 := hx2.size
  go_wp2
  go_loopw [3, 4] (fun v i wr => ∃ (k : Nat) (l : List Kid), k ≤ s.size ∧ i = .int .i64 k ∧ l.map (·.1) = (s.data.toList.take k).map (fun b => leafN b.toNat) ∧ LstFp wr w2.heap.size 27 v l ∧ Ext w2 wr) (fun _ i _ => s.size - (intOf i).toNat)
  case atStart => exact ⟨0, [], Nat.zero_le _, rfl, rfl, hL0, hx22⟩
  case round =>
    clear hL0 hx22
    obtain ⟨k, l, hk, rfl, hl, hL, hx⟩ := hrel
    have HL := Lib.hid hl
    clear hl
    by_cases hlt : k < s.size
    · have hll : l.length = k := by have := congrArg List.length HL.out; simp at this; omega
      have hll2 : l.length ≤ 1000000000 := by omega
      have HM := Lib.hid (show (l.map (·.1)) ++ [leafN s[k].toNat] = (s.data.toList.take (k + 1)).map (fun b => leafN b.toNat) by rw [HL.out, List.take_succ_eq_append_getElem (by simpa using hlt), List.map_append]; rfl)
      have hb := s[k].toNat_lt
      clear HL hll
      go_upto_region 6 with (refine wpl_allocSet rfl rfl ?_; intro g w4 hg hx4 e4 s4)
      simp only [Act.put, List.setIfInBounds_toArray, List.set_cons_succ, List.set_cons_zero]
      go_cut [] (fun wx => Blk wx g 24 (setC fun x => x == s[k].toNat) ∧ Ext wr wx)
      case first =>
        have hi4 : s[k].toNat / 64 < 4 := by omega
        have h3 := hg.frozen (s[k].toNat / 64)
        have h4 := hg.cell (s[k].toNat / 64)
        rw [setC_get _ _ hi4] at h4
        unfold u64v at h4
        go_region
        go_wp2
        go_meet
        case rel =>
          refine ⟨?_, (hx4.setCell e4 _).drew⟩
          have := hg.set (s[k].toNat / 64) (.int .u64 (IntKind.u64.wrap (2 ^ (s[k].toNat % 64))))
          rw [one_word _ (by omega)] at this
          exact this.drew
      obtain ⟨hs5, hx5⟩ := hcut
      generalize wc = w5 at *
      go_wp2_with (first
        | (refine wpl_loadSet rfl _ rfl g _ (fun x => x == s[k].toNat) rfl hs5 ?_)
        | (go_at_call 36; refine (bytes_any (fun x => x == s[k].toNat) _).mono ?_; rintro e w6 ⟨sv6, rfl, hn6, hx6⟩)
        | (refine wpl_oneNd rfl _ rfl (leafN s[k].toNat).h sv6 rfl ?_; intro g7 w7 hb7 hx7 e7 s7)
        | (refine wpl_appFp rfl _ _ rfl w2.heap.size u3 l (leafN s[k].toNat) sv6 g7 1 wr rfl rfl hL ((hx5.trans hx6).trans hx7) hx.size ((hn6.ext hx7).mono hx5.size) hb7 hll2 ?_; intro v8 w8 hL8 hx78 hg8))
      have hx8 : Ext w2 w8 := ext_grown_lst (hx.trans hx78) hL (Nat.le_refl _) hg8
      obtain ⟨f, hL8⟩ := hL8
      clear hL hx hg hx4 e4 s4 hs5 hx5 hn6 hx6 hb7 hx7 hg8 hx78 e7 s7
      go_roundw
      case rel => exact ⟨k + 1, l ++ [(leafN s[k].toNat, sv6, f)], by omega, by go_num, by simpa using HM.out, hL8, hx8⟩
      case measure => simp [intOf]; omega
    · have hd1 : ¬ (k : Int) < (s.size : Int) := by omega
      have HN2 := Lib.hid (hL.node (hdV 0))
      have hts : s.data.toList.take k = s.data.toList := List.take_of_length_le (by simp; omega)
      rw [hts] at HL
      have HSQ := Lib.hid (fun W (hW : Ext wr W) => seq_any (l.map (·.1)) u3 W ((HN2.out.ext hW).ok) ⟨by rw [HL.out]; simp; omega, smallL_of fun n hn => by
        rw [HL.out] at hn
        obtain ⟨b, _, rfl⟩ := List.mem_map.1 hn
        exact ⟨by simp, trivial⟩⟩)
      have HE := Lib.hid (show seqN (l.map (·.1)) = textN s.data.toList by rw [HL.out]; rfl)
      have hwx := hx2.trans hx
      have hsz := hx.size
      clear hts HL HN2 hL
      generalize seqN (l.map (·.1)) = res at *
      go_wp2_with (first
        | (go_at_call 18; refine (HSQ.out _ (Ext.refl _)).mono ?_; rintro e w6 ⟨sv6, rfl, hn6, hx6⟩)
        | (refine wpl_storeNd rfl _ _ rfl rfl z res.h _ sv6 _ rfl rfl hn6.ok.sl (hz.ext (hx.trans hx6)) ?_; intro w7 hz7 hk7))
      exact ret_nd rfl rfl rfl hz7 ⟨sv6, by rw [← HE.out], by rw [← HE.out]; exact (hn6.keep1 hk7 (by omega)).mono (by omega), (hwx.trans hx6).keep1 hk7 (by omega)⟩

end Go.Proofs.YtgfknlkpdiejgaaGreatDoor
