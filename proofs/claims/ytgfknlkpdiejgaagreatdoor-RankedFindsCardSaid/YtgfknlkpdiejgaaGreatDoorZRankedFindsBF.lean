/- trawlref22.Spans as a contract: what ranked tells, if the tree takes the piece. Conditions: the tree lies in memory, the subject is short. trawlref22.Find as a contract. Conditions: the tree lies in memory, the subject is short. trawlref22.Asked as a contract. Condition: the tree lies in memory, it has few nodes. trawlnum.Num as a contract: of nil, and of each of the 21 error values. No condition but where these lie. -/
import Derived.Test.YtgfknlkpdiejgaaGreatDoorZRankedFindsBA
import Derived.Test.YtgfknlkpdiejgaaGreatDoorZRankedFindsBD
import Derived.Test.YtgfknlkpdiejgaaGreatDoorZRankedFindsBE
import Derived.Test.YtgfknlkpdiejgaaGreatDoorZRankedFindsAR
import Derived.Test.YtgfknlkpdiejgaaGreatDoorZRankedFindsAX
import Derived.Test.YtgfknlkpdiejgaaGreatDoorZRankedFindsAS
import Derived.Test.YtgfknlkpdiejgaaGreatDoorZRankedFindsAW
import Derived.Test.YtgfknlkpdiejgaaGreatDoorErrs
namespace Go.Proofs.YtgfknlkpdiejgaaGreatDoor
open Go Go.RowKit

/-- What trawlref22.Spans and Find answer. -/
def SpnR (w : World) (o : Option (List (Int × Int))) (r : Ending) (w' : World) : Prop :=
  (o = none ∧ r = .returned (.tuple #[.slice none 0 0, .bool false]) ∧ Ext w w') ∨ (∃ l g cp, o = some l ∧ r = .returned (.tuple #[.slice (some ⟨g, 0, none⟩) l.length cp, .bool true]) ∧ OwnSp w' w.heap.size (.slice (some ⟨g, 0, none⟩) l.length cp) l ∧ Ext w w')
section
variable {s : ByteArray} {c e : Int}
set_option maxRecDepth 100000 in
set_option maxHeartbeats 16000000 in
theorem rspans_any (t : Nd) (svn : Value) (a b G : Nat) (w : World) (hs : s.size ≤ 900000) (ha : a ≤ s.size) (hb0 : b ≤ s.size) (hG : G ≤ 999) (hf : formB t = true) (hsm : smallN t) (hnu : (numsN t).length ≤ 1000000) (hn : NdCap w t svn) :
    Calls Tryz.prog 16 #[nodeV t.h svn, srV s c e false, .int .i64 a, .int .i64 b, .int .i64 G] w (SpnR w (spnL (lfR s c e false) t a b G)) := by
  have HTA := Lib.hid (fun W (hW : Ext w W) => rtakes_any (s := s) (c := c) (e := e) (tn := false) t svn a b W (by omega) ha hb0 hf hsm (NdOk.ext hW _ _ hn.ok))
  have HBS := Lib.hid (fun (h1 : tkN (lfR s c e false) t a b) W (hW : Ext w W) => best_any (s := s) (c := c) (e := e) (by omega) t svn a b W (NdCap.ext hW hn) hf hsm h1 hb0)
  have HLA := Lib.hid (fun (h1 : tkN (lfR s c e false) t a b) W svp (hW : Ext w W) (hp : PsOk W (bestN (lfR s c e false) t a b) svp) => laidL_any (s := s) (c := c) (e := e) t svn (bestN (lfR s c e false) t a b) svp G W (NdCap.ext hW hn) hp hf hsm (best_small (n := s.size) hs t hf hsm a b hb0) hnu hG (best_parse t hf a b h1 hb0))
  have HDC := Lib.hid (img_one (R := tkN (lfR s c e false) t) (a := a) (b := b))
  have HQ1 : Hid (a ≤ b → tkN (lfR s c e false) t a b → spnL (lfR s c e false) t a b G = some (spansN t (bestN (lfR s c e false) t a b) G)) := Lib.hid (fun h1 h2 => by unfold spnL; rw [if_pos ⟨h1, h2⟩, spans_told hf])
  have HQ0 : Hid (¬ (a ≤ b ∧ tkN (lfR s c e false) t a b) → spnL (lfR s c e false) t a b G = none) := Lib.hid (fun h1 => by unfold spnL; rw [if_neg h1])
  have HLN := Lib.hid (spansN_len t (bestN (lfR s c e false) t a b) G)
  have hsh := hn.ok.shape
  obtain ⟨tk, htk⟩ : ∃ tk, tk = img (tkN (lfR s c e false) t) (oneP a) b := ⟨_, rfl⟩
  rw [← htk] at HTA HDC
  generalize spnL (lfR s c e false) t a b G = res at *
  generalize spansN t (bestN (lfR s c e false) t a b) G = sp at *
  generalize bestN (lfR s c e false) t a b = pk at *
  generalize tkN (lfR s c e false) t a b = TK at *
  clear htk hn hf hsm hnu
  obtain ⟨A0, c0, hsv⟩ := hsh
  generalize t.subs.length = nl at *
  subst hsv
  generalize t.h = h at *
  unfold srV at *
  go_enter Tryz.func16, Tryz.ntmps16
  go_upto_region 1 with (refine wpl_boxNd rfl _ rfl h _ rfl ?_; intro z w1 hb hx1 ez sz)
  have hV := Blk.new w1 35 #[.string s, .int .i64 c, .int .i64 e, .bool false]
  have hx2 := hx1.alloc (.cells #[.string s, .int .i64 c, .int .i64 e, .bool false] 35)
  replace hb := hb.ext ((Ext.refl w1).alloc (.cells #[.string s, .int .i64 c, .int .i64 e, .bool false] 35))
  generalize w1.alloc (.cells #[.string s, .int .i64 c, .int .i64 e, .bool false] 35) = w2 at *
  generalize w1.heap.size = gu at *
  have HX2 := Lib.hid hx2
  have HZ := Lib.hid (fun W (hW : Ext w2 W) => (hb.ext hW).nd)
  have HU := Lib.hid (fun W (hW : Ext w2 W) => (⟨(hV.ext hW).cell 0, (hV.ext hW).cell 1, (hV.ext hW).cell 2, (hV.ext hW).cell 3⟩ : (W.cell? ⟨gu, 0, none⟩ = some (.string s) ∧ W.cell? ⟨gu, 1, none⟩ = some (.int .i64 c) ∧ W.cell? ⟨gu, 2, none⟩ = some (.int .i64 e) ∧ W.cell? ⟨gu, 3, none⟩ = some (.bool false))))
  clear hb hV hx1 ez sz hx2
  have KS := Lib.hid (fun w' (hw' : Ext w2 w') => (by
    have q1 := HZ.out w' hw'
    exact ⟨⟨q1 0 (by decide), q1 1 (by decide), q1 2 (by decide), q1 3 (by decide), q1 4 (by decide), q1 5 (by decide), q1 6 (by decide), q1 7 (by decide), q1 8 (by decide), q1 9 (by decide)⟩, HU.out w' hw'⟩ : (w'.cell? ⟨z, 0, none⟩ = some (.int .i64 h.kind) ∧ w'.cell? ⟨z, 1, none⟩ = some (.int .u64 (wd h.set 0 : Int)) ∧ w'.cell? ⟨z, 2, none⟩ = some (.int .u64 (wd h.set 1 : Int)) ∧ w'.cell? ⟨z, 3, none⟩ = some (.int .u64 (wd h.set 2 : Int)) ∧ w'.cell? ⟨z, 4, none⟩ = some (.int .u64 (wd h.set 3 : Int)) ∧ w'.cell? ⟨z, 5, none⟩ = some (.slice A0 nl c0) ∧ w'.cell? ⟨z, 6, none⟩ = some (.int .i64 h.num) ∧ w'.cell? ⟨z, 7, none⟩ = some (.int .i64 h.min) ∧ w'.cell? ⟨z, 8, none⟩ = some (.int .i64 h.max) ∧ w'.cell? ⟨z, 9, none⟩ = some (.bool h.bare)) ∧ (w'.cell? ⟨gu, 0, none⟩ = some (.string s) ∧ w'.cell? ⟨gu, 1, none⟩ = some (.int .i64 c) ∧ w'.cell? ⟨gu, 2, none⟩ = some (.int .i64 e) ∧ w'.cell? ⟨gu, 3, none⟩ = some (.bool false))))
  by_cases hab : b < a
  · have q1 : (b : Int) < (a : Int) := by omega
    have FIN := Lib.hid (HQ0.out (fun h => by omega))
    clear KS HZ HU HTA HBS HLA HDC HQ1 HQ0 hab
    go_wp2
    go_ret2
    exact .inl ⟨FIN.out, rfl, HX2.out⟩
  · have q1 : ¬ (b : Int) < (a : Int) := by omega
    obtain ⟨⟨y0, y1, y2, y3, y4, y5, y6, y7, y8, y9⟩, y10, y11, y12, y13⟩ := KS.out w2 (Ext.refl w2)
    have hnd := HZ.out w2 (Ext.refl w2)
    go_upto_region 4 with (first
      | (refine wpl_loadNd rfl _ rfl z 0 h _ rfl hnd ?_)
      | (go_at_call 33; refine (HTA.out w2 HX2.out).mono ?_; rintro e w3 ⟨rfl, hx3⟩))
    try simp only [Act.put, List.setIfInBounds_toArray, List.set_cons_zero, List.set_cons_succ]
    have HX3 := Lib.hid (HX2.out.trans hx3)
    clear y0 y1 y2 y3 y4 y5 y6 y7 y8 y9 y10 y11 y12 y13 hnd
    cases tk with
    | false =>
      have FIN := Lib.hid (HQ0.out (fun h => absurd (HDC.out.2 h.2) (by decide)))
      clear KS HZ HU HTA HBS HLA HDC HQ1 HQ0 hab q1
      go_wp2
      go_ret2
      exact .inl ⟨FIN.out, rfl, HX3.out⟩
    | true =>
      have htk := HDC.out.1 rfl
      have FIN := Lib.hid (HQ1.out (by omega) htk)
      have HB1 : Hid (∀ W, Ext w W → Calls Tryz.prog 35 #[.agg #[.int .i64 h.kind, .int .u64 (wd h.set 0 : Int), .int .u64 (wd h.set 1 : Int), .int .u64 (wd h.set 2 : Int), .int .u64 (wd h.set 3 : Int), .slice A0 nl c0, .int .i64 h.num, .int .i64 h.min, .int .i64 h.max, .bool h.bare], .agg #[.string s, .int .i64 c, .int .i64 e, .bool false], .int .i64 a, .int .i64 b] W (RetPsB W pk)) := Lib.hid (HBS.out htk)
      have HL1 : Hid (∀ W svp, Ext w W → PsOk W pk svp → Calls Tryz.prog 34 #[.agg #[.int .i64 h.kind, .int .u64 (wd h.set 0 : Int), .int .u64 (wd h.set 1 : Int), .int .u64 (wd h.set 2 : Int), .int .u64 (wd h.set 3 : Int), .slice A0 nl c0, .int .i64 h.num, .int .i64 h.min, .int .i64 h.max, .bool h.bare], .agg #[.int .i64 pk.d.a, .int .i64 pk.d.b, .int .i64 pk.d.k, svp], .int .i64 G] W fun r w' => ∃ g cp, r = .returned (.slice (some ⟨g, 0, none⟩) (G + 1) cp) ∧ OwnSp w' W.heap.size (.slice (some ⟨g, 0, none⟩) (G + 1) cp) sp ∧ Ext W w') := Lib.hid (fun W svp hW hp => HLA.out htk W svp hW hp)
      have HX23 := Lib.hid hx3
      clear HTA HBS HLA HDC HQ1 HQ0 hab q1 htk hx3
      go_upto_region 6 with fail
      have KS3 := Lib.hid (fun w' (hw' : Ext w3 w') => KS.out w' (HX23.out.trans hw'))
      clear KS HZ HU
      go_region_held3 (fun w' => (w'.cell? ⟨z, 0, none⟩ = some (.int .i64 h.kind) ∧ w'.cell? ⟨z, 1, none⟩ = some (.int .u64 (wd h.set 0 : Int)) ∧ w'.cell? ⟨z, 2, none⟩ = some (.int .u64 (wd h.set 1 : Int)) ∧ w'.cell? ⟨z, 3, none⟩ = some (.int .u64 (wd h.set 2 : Int)) ∧ w'.cell? ⟨z, 4, none⟩ = some (.int .u64 (wd h.set 3 : Int)) ∧ w'.cell? ⟨z, 5, none⟩ = some (.slice A0 nl c0) ∧ w'.cell? ⟨z, 6, none⟩ = some (.int .i64 h.num) ∧ w'.cell? ⟨z, 7, none⟩ = some (.int .i64 h.min) ∧ w'.cell? ⟨z, 8, none⟩ = some (.int .i64 h.max) ∧ w'.cell? ⟨z, 9, none⟩ = some (.bool h.bare)) ∧ (w'.cell? ⟨gu, 0, none⟩ = some (.string s) ∧ w'.cell? ⟨gu, 1, none⟩ = some (.int .i64 c) ∧ w'.cell? ⟨gu, 2, none⟩ = some (.int .i64 e) ∧ w'.cell? ⟨gu, 3, none⟩ = some (.bool false)))
        ((first | exact KS3.out _ (Ext.refl _).drew | exact KS3.out _ hX6 | exact KS3.out _ hX5))
        (first
          | (go_at_call 35; refine (HB1.out _ (HX3.out.trans (Ext.refl w3).drewr)).mono ?_; rintro e w5 ⟨sv5, rfl, hp5, hx5⟩; have hX5 : Ext w3 w5 := (Ext.refl w3).drewr.trans hx5; obtain ⟨A5, c5, hv5⟩ := hp5.ok.shape; subst hv5)
          | (go_at_call 34; refine (HL1.out _ _ (HX3.out.trans hX5) hp5.ok).mono ?_; rintro e w6 ⟨g6, c6, rfl, ho6, hx6⟩; have hX6 : Ext w3 w6 := hX5.trans hx6))
      all_goals
        have HF := Lib.hid (HX3.out.trans hX6)
        have hz5 : w.heap.size ≤ w5.heap.size := (HX3.out.trans hX5).size
        have HO := Lib.hid (OwnR.mono ho6 hz5)
        clear KS3 HB1 HL1 hp5 hx5 hx6 hX5 hX6 ho6
        go_wp2
        go_ret2
        exact .inr ⟨sp, g6, c6, FIN.out, by rw [HLN.out]; rfl, by rw [HLN.out]; exact HO.out, HF.out⟩
end

end Go.Proofs.YtgfknlkpdiejgaaGreatDoor

namespace Go.Proofs.YtgfknlkpdiejgaaGreatDoor
open Go Go.RowKit

section
variable {s : ByteArray} {c e : Int}
set_option maxRecDepth 100000 in
set_option maxHeartbeats 16000000 in
theorem rfind_any (t : Nd) (svn : Value) (i0 G : Nat) (w : World) (hs : s.size ≤ 900000) (hG : G ≤ 999) (hf : formB t = true) (hsm : smallN t) (hnu : (numsN t).length ≤ 1000000) (hn : NdCap w t svn) :
    Calls Tryz.prog 11 #[nodeV t.h svn, srV s c e false, .int .i64 i0, .int .i64 G] w (SpnR w (fndL (lfR s c e false) s.size t i0 G)) := by
  have HFI := Lib.hid (fun W (hW : Ext w W) => rfirst_any (s := s) (c := c) (e := e) (tn := false) t svn i0 W (by omega) hf hsm (NdOk.ext hW _ _ hn.ok))
  have HSP := Lib.hid (fun (a b : Nat) (ha : a ≤ s.size) (hb : b ≤ s.size) W (hW : Ext w W) => rspans_any (s := s) (c := c) (e := e) t svn a b G W hs ha hb hG hf hsm hnu (NdCap.ext hW hn))
  have HMN := tkN_mon (lfR_ok s c e false) t
  have hsh := hn.ok.shape
  have HFN := Lib.hid (show fndL (lfR s c e false) s.size t i0 G = (findR s.size (tkN (lfR s c e false) t) i0).map fun p => toldN (lfR s c e false) t p.1 p.2 G from rfl)
  obtain ⟨o, ho⟩ : ∃ o, o = findR s.size (tkN (lfR s c e false) t) i0 := ⟨_, rfl⟩
  rw [← ho] at HFI HFN
  have HO := Lib.hid ho
  clear ho
  have HS1 := Lib.hid (fun (a b : Nat) (h1 : a ≤ b) (h2 : tkN (lfR s c e false) t a b) => show spnL (lfR s c e false) t a b G = some (toldN (lfR s c e false) t a b G) from by unfold spnL; rw [if_pos ⟨h1, h2⟩])
  generalize fndL (lfR s c e false) s.size t i0 G = res at *
  clear hn hf hsm hnu
  obtain ⟨A0, cc, hsv⟩ := hsh
  generalize t.subs.length = nl at *
  subst hsv
  have HS4 : Hid (∀ (a b : Nat), a ≤ s.size → b ≤ s.size → ∀ W, Ext w W → Calls Tryz.prog 16 #[nodeV t.h (.slice A0 nl cc), srV s c e false, .int .i64 a, .int .i64 b, .int .i64 G] W (SpnR W (spnL (lfR s c e false) t a b G))) := Lib.hid HSP.out
  clear HSP
  obtain ⟨sf, hsf⟩ : ∃ sf : Nat → Nat → Option (List (Int × Int)), sf = fun a b => spnL (lfR s c e false) t a b G := ⟨_, rfl⟩
  have HSF := Lib.hid (fun a b => (congrFun (congrFun hsf a) b : sf a b = spnL (lfR s c e false) t a b G))
  have HS5 : Hid (∀ (a b : Nat), a ≤ s.size → b ≤ s.size → ∀ W, Ext w W → Calls Tryz.prog 16 #[nodeV t.h (.slice A0 nl cc), srV s c e false, .int .i64 a, .int .i64 b, .int .i64 G] W (SpnR W (sf a b))) := Lib.hid (fun a b h1 h2 W hW => by rw [HSF.out]; exact HS4.out a b h1 h2 W hW)
  have HS6 : Hid (∀ a b, o = some (a, b) → res = sf a b ∧ a ≤ s.size ∧ b ≤ s.size) := Lib.hid (fun a b h => by
    obtain ⟨_, h1, h2, h3⟩ := findR_some HMN (HO.out.symm.trans h)
    refine ⟨?_, by omega, h3⟩
    rw [HSF.out, HS1.out a b h2 h1, HFN.out, h]; rfl)
  have HS7 : Hid (o = none → res = none) := Lib.hid (fun h => by rw [HFN.out, h]; rfl)
  clear hsf HSF HS4 HS1 HFN HO HMN
  generalize t.h = h at *
  unfold srV at *
  go_enter Tryz.func11, Tryz.ntmps11
  go_upto_region 1 with (refine wpl_boxNd rfl _ rfl h _ rfl ?_; intro z w1 hb hx1 ez sz)
  have hV := Blk.new w1 35 #[.string s, .int .i64 c, .int .i64 e, .bool false]
  have hx2 := hx1.alloc (.cells #[.string s, .int .i64 c, .int .i64 e, .bool false] 35)
  replace hb := hb.ext ((Ext.refl w1).alloc (.cells #[.string s, .int .i64 c, .int .i64 e, .bool false] 35))
  generalize w1.alloc (.cells #[.string s, .int .i64 c, .int .i64 e, .bool false] 35) = w2 at *
  generalize w1.heap.size = gu at *
  have HX2 := Lib.hid hx2
  have HZ := Lib.hid (fun W (hW : Ext w2 W) => (hb.ext hW).nd)
  have HU := Lib.hid (fun W (hW : Ext w2 W) => (⟨(hV.ext hW).cell 0, (hV.ext hW).cell 1, (hV.ext hW).cell 2, (hV.ext hW).cell 3⟩ : (W.cell? ⟨gu, 0, none⟩ = some (.string s) ∧ W.cell? ⟨gu, 1, none⟩ = some (.int .i64 c) ∧ W.cell? ⟨gu, 2, none⟩ = some (.int .i64 e) ∧ W.cell? ⟨gu, 3, none⟩ = some (.bool false))))
  clear hb hV hx1 ez sz hx2
  have KS := Lib.hid (fun w' (hw' : Ext w2 w') => (by
    have q1 := HZ.out w' hw'
    exact ⟨⟨q1 0 (by decide), q1 1 (by decide), q1 2 (by decide), q1 3 (by decide), q1 4 (by decide), q1 5 (by decide), q1 6 (by decide), q1 7 (by decide), q1 8 (by decide), q1 9 (by decide)⟩, HU.out w' hw'⟩ : (w'.cell? ⟨z, 0, none⟩ = some (.int .i64 h.kind) ∧ w'.cell? ⟨z, 1, none⟩ = some (.int .u64 (wd h.set 0 : Int)) ∧ w'.cell? ⟨z, 2, none⟩ = some (.int .u64 (wd h.set 1 : Int)) ∧ w'.cell? ⟨z, 3, none⟩ = some (.int .u64 (wd h.set 2 : Int)) ∧ w'.cell? ⟨z, 4, none⟩ = some (.int .u64 (wd h.set 3 : Int)) ∧ w'.cell? ⟨z, 5, none⟩ = some (.slice A0 nl cc) ∧ w'.cell? ⟨z, 6, none⟩ = some (.int .i64 h.num) ∧ w'.cell? ⟨z, 7, none⟩ = some (.int .i64 h.min) ∧ w'.cell? ⟨z, 8, none⟩ = some (.int .i64 h.max) ∧ w'.cell? ⟨z, 9, none⟩ = some (.bool h.bare)) ∧ (w'.cell? ⟨gu, 0, none⟩ = some (.string s) ∧ w'.cell? ⟨gu, 1, none⟩ = some (.int .i64 c) ∧ w'.cell? ⟨gu, 2, none⟩ = some (.int .i64 e) ∧ w'.cell? ⟨gu, 3, none⟩ = some (.bool false))))
  obtain ⟨⟨y0, y1, y2, y3, y4, y5, y6, y7, y8, y9⟩, y10, y11, y12, y13⟩ := KS.out w2 (Ext.refl w2)
  have hnd := HZ.out w2 (Ext.refl w2)
  cases o with
  | none =>
    have FIN : Hid (res = none) := Lib.hid (HS7.out rfl)
    unfold fstV2 at HFI
    clear HS5 HS6 HS7
    go_upto_region 2 with (first
      | (refine wpl_loadNd rfl _ rfl z 0 h _ rfl hnd ?_)
      | (refine wpl_allocSp rfl rfl ?_; intro z4 w4 hz4 hx4 e4 s4)
      | (refine wpl_storeSp rfl _ _ rfl rfl z4 ((0 : Int), (0 : Int)) (0, 0) rfl rfl hz4 ?_; intro w5 hz5 hk5)
      | (go_at_call 31; refine (HFI.out w2 HX2.out).mono ?_; rintro e w3 ⟨rfl, hx3⟩))
    try simp only [Act.put, List.setIfInBounds_toArray, List.set_cons_zero, List.set_cons_succ]
    have hx25 : Ext w2 w5 := hx3.trans (hx4.keep1 hk5 e4)
    have HX5 := Lib.hid (HX2.out.trans hx25)
    have HX25 := Lib.hid hx25
    have c0 : w5.cell? ⟨z4, 0, none⟩ = some (.int .i64 ((0 : Int), (0 : Int)).1) := hz5.cell 0
    have c1 : w5.cell? ⟨z4, 1, none⟩ = some (.int .i64 ((0 : Int), (0 : Int)).2) := hz5.cell 1
    clear y0 y1 y2 y3 y4 y5 y6 y7 y8 y9 y10 y11 y12 y13 hnd hx25 hx3 hz4 hx4 e4 s4 hz5 hk5
    clear KS HZ HU HX25 c0 c1
    go_wp2
    go_ret2
    exact .inl ⟨FIN.out, rfl, HX5.out⟩
  | some ab =>
    obtain ⟨a, b⟩ := ab
    obtain ⟨h1, h2, h3⟩ := HS6.out a b rfl
    have FIN : Hid (res = sf a b) := Lib.hid h1
    unfold fstV2 at HFI
    have HS2 : Hid (∀ W, Ext w W → Calls Tryz.prog 16 #[.agg #[.int .i64 h.kind, .int .u64 (wd h.set 0 : Int), .int .u64 (wd h.set 1 : Int), .int .u64 (wd h.set 2 : Int), .int .u64 (wd h.set 3 : Int), .slice A0 nl cc, .int .i64 h.num, .int .i64 h.min, .int .i64 h.max, .bool h.bare], .agg #[.string s, .int .i64 c, .int .i64 e, .bool false], .int .i64 a, .int .i64 b, .int .i64 G] W (SpnR W (sf a b))) := Lib.hid (HS5.out a b h2 h3)
    generalize sf a b = rs at *
    clear HS5 HS6 HS7 h1 h2 h3
    go_upto_region 2 with (first
      | (refine wpl_loadNd rfl _ rfl z 0 h _ rfl hnd ?_)
      | (refine wpl_allocSp rfl rfl ?_; intro z4 w4 hz4 hx4 e4 s4)
      | (refine wpl_storeSp rfl _ _ rfl rfl z4 ((a : Int), (b : Int)) (0, 0) rfl rfl hz4 ?_; intro w5 hz5 hk5)
      | (go_at_call 31; refine (HFI.out w2 HX2.out).mono ?_; rintro e w3 ⟨rfl, hx3⟩))
    try simp only [Act.put, List.setIfInBounds_toArray, List.set_cons_zero, List.set_cons_succ]
    have hx25 : Ext w2 w5 := hx3.trans (hx4.keep1 hk5 e4)
    have HX5 := Lib.hid (HX2.out.trans hx25)
    have HX25 := Lib.hid hx25
    have c0 : w5.cell? ⟨z4, 0, none⟩ = some (.int .i64 ((a : Int), (b : Int)).1) := hz5.cell 0
    have c1 : w5.cell? ⟨z4, 1, none⟩ = some (.int .i64 ((a : Int), (b : Int)).2) := hz5.cell 1
    clear y0 y1 y2 y3 y4 y5 y6 y7 y8 y9 y10 y11 y12 y13 hnd hx25 hx3 hz4 hx4 e4 s4 hz5 hk5
    obtain ⟨⟨y0, y1, y2, y3, y4, y5, y6, y7, y8, y9⟩, y10, y11, y12, y13⟩ := KS.out w5 HX25.out
    have hnd := HZ.out w5 HX25.out
    cases rs with
    | none =>
      have HS3 : Hid (Calls Tryz.prog 16 #[.agg #[.int .i64 h.kind, .int .u64 (wd h.set 0 : Int), .int .u64 (wd h.set 1 : Int), .int .u64 (wd h.set 2 : Int), .int .u64 (wd h.set 3 : Int), .slice A0 nl cc, .int .i64 h.num, .int .i64 h.min, .int .i64 h.max, .bool h.bare], .agg #[.string s, .int .i64 c, .int .i64 e, .bool false], .int .i64 a, .int .i64 b, .int .i64 G] w5 fun r w' => r = .returned (.tuple #[.slice none 0 0, .bool false]) ∧ Ext w5 w') := Lib.hid ((HS2.out w5 HX5.out).mono fun r w' hr => by
        rcases hr with ⟨_, h2, h3⟩ | ⟨_, _, _, h1, _⟩
        · exact ⟨h2, h3⟩
        · cases h1)
      clear KS HZ HU HX25 HS2 HFI
      go_upto_region 4 with fail
      go_wp2_with (first
        | (refine wpl_loadNd rfl _ rfl z 0 h _ rfl hnd ?_)
        | (go_at_call 16; refine HS3.out.mono ?_; rintro e w6 ⟨rfl, hx6⟩))
      go_ret2
      exact .inl ⟨FIN.out, rfl, HX5.out.trans hx6⟩
    | some l =>
      have HS3 : Hid (Calls Tryz.prog 16 #[.agg #[.int .i64 h.kind, .int .u64 (wd h.set 0 : Int), .int .u64 (wd h.set 1 : Int), .int .u64 (wd h.set 2 : Int), .int .u64 (wd h.set 3 : Int), .slice A0 nl cc, .int .i64 h.num, .int .i64 h.min, .int .i64 h.max, .bool h.bare], .agg #[.string s, .int .i64 c, .int .i64 e, .bool false], .int .i64 a, .int .i64 b, .int .i64 G] w5 fun r w' => ∃ g cp, r = .returned (.tuple #[.slice (some ⟨g, 0, none⟩) l.length cp, .bool true]) ∧ OwnSp w' w5.heap.size (.slice (some ⟨g, 0, none⟩) l.length cp) l ∧ Ext w5 w') := Lib.hid ((HS2.out w5 HX5.out).mono fun r w' hr => by
        rcases hr with ⟨h1, _⟩ | ⟨l', g, cp, h1, h2, h3, h4⟩
        · cases h1
        · injection h1 with h1
          subst h1
          exact ⟨g, cp, h2, h3, h4⟩)
      clear KS HZ HU HX25 HS2 HFI
      go_upto_region 4 with fail
      go_wp2_with (first
        | (refine wpl_loadNd rfl _ rfl z 0 h _ rfl hnd ?_)
        | (go_at_call 16; refine HS3.out.mono ?_; rintro e w6 ⟨g6, c6, rfl, ho6, hx6⟩))
      go_ret2
      exact .inr ⟨l, g6, c6, FIN.out, rfl, OwnR.mono ho6 HX5.out.size, HX5.out.trans hx6⟩
end

end Go.Proofs.YtgfknlkpdiejgaaGreatDoor

namespace Go.Proofs.YtgfknlkpdiejgaaGreatDoor
open Go Go.RowKit

section
variable {s : ByteArray} {c e : Int}
set_option maxRecDepth 100000 in
set_option maxHeartbeats 16000000 in
theorem rasked_any (t : Nd) (svn : Value) (G a b lim : Int) (w : World) (hn : NdOk w t svn) (hlim : lim ≤ 1000000) (hfew : 0 ≤ leftN t lim) :
    Calls Tryz.prog 9 #[nodeV t.h svn, srV s c e false, .int .i64 G, .int .i64 a, .int .i64 b] w fun r w' => r = .returned (.int .i64 (askN t s.size G [a, b] : Nat)) ∧ Ext w w' := by
  have HC := Lib.hid (fun W (hW : Ext w W) => check04_any t svn W lim (NdOk.ext hW _ _ hn) hlim hfew)
  have HK0 : Hid (chkN t ≠ 0 → askN t s.size G [a, b] = chkN t) := Lib.hid (fun h => by unfold askN; rw [if_pos h])
  have HK1 : Hid (chkN t = 0 → (a < 0 ∨ (s.size : Int) < a ∨ b < 0 ∨ (s.size : Int) < b ∨ G < 0 ∨ 999 < G) → askN t s.size G [a, b] = 15) := Lib.hid (fun h h2 => by
    unfold askN
    rw [if_neg (by simp [h]), if_pos]
    simp only [outB, List.any_cons, List.any_nil, Bool.or_false, Bool.or_eq_true, decide_eq_true_eq]
    omega)
  have HK2 : Hid (chkN t = 0 → ¬ (a < 0 ∨ (s.size : Int) < a ∨ b < 0 ∨ (s.size : Int) < b ∨ G < 0 ∨ 999 < G) → askN t s.size G [a, b] = 0) := Lib.hid (fun h h2 => by
    unfold askN
    rw [if_neg (by simp [h]), if_neg]
    simp only [outB, List.any_cons, List.any_nil, Bool.or_false, Bool.or_eq_true, decide_eq_true_eq]
    omega)
  have hsh := hn.shape
  generalize askN t s.size G [a, b] = res at *
  generalize chkN t = ck at *
  clear hn hlim hfew
  obtain ⟨A0, c0, hsv⟩ := hsh
  generalize t.subs.length = nl at *
  subst hsv
  generalize t.h = h at *
  unfold srV at *
  go_enter Tryz.func9, Tryz.ntmps9
  go_upto_region 1 with (refine wpl_boxNd rfl _ rfl h _ rfl ?_; intro z w1 hb hx1 ez sz)
  have hV := Blk.new w1 35 #[.string s, .int .i64 c, .int .i64 e, .bool false]
  have hx2 := hx1.alloc (.cells #[.string s, .int .i64 c, .int .i64 e, .bool false] 35)
  replace hb := hb.ext ((Ext.refl w1).alloc (.cells #[.string s, .int .i64 c, .int .i64 e, .bool false] 35))
  generalize w1.alloc (.cells #[.string s, .int .i64 c, .int .i64 e, .bool false] 35) = w2 at *
  generalize w1.heap.size = gu at *
  have HX2 := Lib.hid hx2
  have HZ := Lib.hid (fun W (hW : Ext w2 W) => (hb.ext hW).nd)
  have HU := Lib.hid (fun W (hW : Ext w2 W) => (⟨(hV.ext hW).cell 0, (hV.ext hW).cell 1, (hV.ext hW).cell 2, (hV.ext hW).cell 3⟩ : (W.cell? ⟨gu, 0, none⟩ = some (.string s) ∧ W.cell? ⟨gu, 1, none⟩ = some (.int .i64 c) ∧ W.cell? ⟨gu, 2, none⟩ = some (.int .i64 e) ∧ W.cell? ⟨gu, 3, none⟩ = some (.bool false))))
  clear hb hV hx1 ez sz hx2
  have KS := Lib.hid (fun w' (hw' : Ext w2 w') => (by
    have q1 := HZ.out w' hw'
    exact ⟨⟨q1 0 (by decide), q1 1 (by decide), q1 2 (by decide), q1 3 (by decide), q1 4 (by decide), q1 5 (by decide), q1 6 (by decide), q1 7 (by decide), q1 8 (by decide), q1 9 (by decide)⟩, HU.out w' hw'⟩ : (w'.cell? ⟨z, 0, none⟩ = some (.int .i64 h.kind) ∧ w'.cell? ⟨z, 1, none⟩ = some (.int .u64 (wd h.set 0 : Int)) ∧ w'.cell? ⟨z, 2, none⟩ = some (.int .u64 (wd h.set 1 : Int)) ∧ w'.cell? ⟨z, 3, none⟩ = some (.int .u64 (wd h.set 2 : Int)) ∧ w'.cell? ⟨z, 4, none⟩ = some (.int .u64 (wd h.set 3 : Int)) ∧ w'.cell? ⟨z, 5, none⟩ = some (.slice A0 nl c0) ∧ w'.cell? ⟨z, 6, none⟩ = some (.int .i64 h.num) ∧ w'.cell? ⟨z, 7, none⟩ = some (.int .i64 h.min) ∧ w'.cell? ⟨z, 8, none⟩ = some (.int .i64 h.max) ∧ w'.cell? ⟨z, 9, none⟩ = some (.bool h.bare)) ∧ (w'.cell? ⟨gu, 0, none⟩ = some (.string s) ∧ w'.cell? ⟨gu, 1, none⟩ = some (.int .i64 c) ∧ w'.cell? ⟨gu, 2, none⟩ = some (.int .i64 e) ∧ w'.cell? ⟨gu, 3, none⟩ = some (.bool false))))
  have hnd := HZ.out w2 (Ext.refl w2)
  go_upto_region 2 with (first
    | (refine wpl_loadNd rfl _ rfl z 0 h _ rfl hnd ?_)
    | (go_at_call 29; refine (HC.out w2 HX2.out).mono ?_; rintro e w3 ⟨rfl, hx3⟩))
  try simp only [Act.put, List.setIfInBounds_toArray, List.set_cons_zero, List.set_cons_succ]
  have HX3 := Lib.hid (HX2.out.trans hx3)
  obtain ⟨_, y0, _, _, _⟩ := KS.out w3 hx3
  clear KS HZ HU hnd hx3 HC
  by_cases h0 : ck = 0
  · have HA15 := Lib.hid (HK1.out h0)
    have HA0 := Lib.hid (HK2.out h0)
    subst h0
    clear HK0 HK1 HK2
    by_cases k0 : a < 0
    · have FIN : Hid (res = 15) := Lib.hid (HA15.out (by omega))
      have q0 : decide (a < 0) = true := decide_eq_true k0
      clear HA15 HA0 k0
      go_wp2
      go_ret
      exact ⟨by rw [FIN.out]; rfl, HX3.out⟩
    by_cases k1 : (s.size : Int) < a
    · have FIN : Hid (res = 15) := Lib.hid (HA15.out (by omega))
      have q1 : decide ((s.size : Int) < a) = true := decide_eq_true k1
      have q0 : decide (a < 0) = false := decide_eq_false k0
      clear HA15 HA0 k0 k1
      go_wp2
      go_ret
      exact ⟨by rw [FIN.out]; rfl, HX3.out⟩
    by_cases k2 : b < 0
    · have FIN : Hid (res = 15) := Lib.hid (HA15.out (by omega))
      have q2 : decide (b < 0) = true := decide_eq_true k2
      have q0 : decide (a < 0) = false := decide_eq_false k0
      have q1 : decide ((s.size : Int) < a) = false := decide_eq_false k1
      clear HA15 HA0 k0 k1 k2
      go_wp2
      go_ret
      exact ⟨by rw [FIN.out]; rfl, HX3.out⟩
    by_cases k3 : (s.size : Int) < b
    · have FIN : Hid (res = 15) := Lib.hid (HA15.out (by omega))
      have q3 : decide ((s.size : Int) < b) = true := decide_eq_true k3
      have q0 : decide (a < 0) = false := decide_eq_false k0
      have q1 : decide ((s.size : Int) < a) = false := decide_eq_false k1
      have q2 : decide (b < 0) = false := decide_eq_false k2
      clear HA15 HA0 k0 k1 k2 k3
      go_wp2
      go_ret
      exact ⟨by rw [FIN.out]; rfl, HX3.out⟩
    by_cases k4 : G < 0
    · have FIN : Hid (res = 15) := Lib.hid (HA15.out (by omega))
      have q4 : decide (G < 0) = true := decide_eq_true k4
      have q0 : decide (a < 0) = false := decide_eq_false k0
      have q1 : decide ((s.size : Int) < a) = false := decide_eq_false k1
      have q2 : decide (b < 0) = false := decide_eq_false k2
      have q3 : decide ((s.size : Int) < b) = false := decide_eq_false k3
      clear HA15 HA0 k0 k1 k2 k3 k4
      go_wp2
      go_ret
      exact ⟨by rw [FIN.out]; rfl, HX3.out⟩
    by_cases k5 : 999 < G
    · have FIN : Hid (res = 15) := Lib.hid (HA15.out (by omega))
      have q5 : decide (999 < G) = true := decide_eq_true k5
      have q0 : decide (a < 0) = false := decide_eq_false k0
      have q1 : decide ((s.size : Int) < a) = false := decide_eq_false k1
      have q2 : decide (b < 0) = false := decide_eq_false k2
      have q3 : decide ((s.size : Int) < b) = false := decide_eq_false k3
      have q4 : decide (G < 0) = false := decide_eq_false k4
      clear HA15 HA0 k0 k1 k2 k3 k4 k5
      go_wp2
      go_ret
      exact ⟨by rw [FIN.out]; rfl, HX3.out⟩
    have FIN : Hid (res = 0) := Lib.hid (HA0.out (by omega))
    have q0 : decide (a < 0) = false := decide_eq_false k0
    have q1 : decide ((s.size : Int) < a) = false := decide_eq_false k1
    have q2 : decide (b < 0) = false := decide_eq_false k2
    have q3 : decide ((s.size : Int) < b) = false := decide_eq_false k3
    have q4 : decide (G < 0) = false := decide_eq_false k4
    have q5 : decide (999 < G) = false := decide_eq_false k5
    clear HA15 HA0 k0 k1 k2 k3 k4 k5
    go_wp2
    go_ret
    exact ⟨by rw [FIN.out]; rfl, HX3.out⟩
  · have FIN := Lib.hid (HK0.out h0)
    have q0 : ((ck : Int) != 0) = true := by rw [bne_iff_ne]; omega
    clear HK0 HK1 HK2 h0 y0
    go_wp2
    go_ret
    exact ⟨by rw [FIN.out]; rfl, HX3.out⟩
end

end Go.Proofs.YtgfknlkpdiejgaaGreatDoor

namespace Go.Proofs.YtgfknlkpdiejgaaGreatDoor
open Go.RowKit

def errsC (A : Nat → Addr) : Array Value := ((List.range 21).map fun i => errV (A i)).toArray
theorem errsC_get (A : Nat → Addr) (i : Nat) (h : i < 21) : (errsC A)[i]? = some (errV (A i)) := by unfold errsC; simp [h]

theorem num_nil (w : World) : Calls Tryz.prog 10 #[.nilIface] w fun r w' => r = .returned (.int .i64 0) ∧ w = w' := by
  go_enter Tryz.func10, Tryz.ntmps10
  go_wp2
  go_ret
  exact ⟨rfl, rfl⟩

set_option maxRecDepth 100000 in
set_option maxHeartbeats 4000000 in
theorem num_err (A : Nat → Addr) (i : Nat) (w : World) (hi : i < 21) (h : ErrsAt w A) :
    Calls Tryz.prog 10 #[errV (A i)] w fun r w' => r = .returned (.int .i64 (i + 1 : Nat)) ∧ Ext w w' := by
  have H := Lib.hid h
  have v0 := h.var 0 (by omega)
  have v1 := h.var 1 (by omega)
  have v2 := h.var 2 (by omega)
  have v3 := h.var 3 (by omega)
  have v4 := h.var 4 (by omega)
  have v5 := h.var 5 (by omega)
  have v6 := h.var 6 (by omega)
  have v7 := h.var 7 (by omega)
  have v8 := h.var 8 (by omega)
  have v9 := h.var 9 (by omega)
  have v10 := h.var 10 (by omega)
  have v11 := h.var 11 (by omega)
  have v12 := h.var 12 (by omega)
  have v13 := h.var 13 (by omega)
  have v14 := h.var 14 (by omega)
  have v15 := h.var 15 (by omega)
  have v16 := h.var 16 (by omega)
  have v17 := h.var 17 (by omega)
  have v18 := h.var 18 (by omega)
  have v19 := h.var 19 (by omega)
  have v20 := h.var 20 (by omega)
  simp only [gb, gbs, List.getD_cons_zero, List.getD_cons_succ] at v0 v1 v2 v3 v4 v5 v6 v7 v8 v9 v10 v11 v12 v13 v14 v15 v16 v17 v18 v19 v20
  clear h
  unfold errV at *
  go_enter Tryz.func10, Tryz.ntmps10
  go_wp2
  have hB : Blk (w.alloc (.cells (errsC A) 38)) w.heap.size 38 (errsC A) := Blk.new w _ _
  have hx : Ext w (w.alloc (.cells (errsC A) 38)) := (Ext.refl w).alloc _
  have hE : Hid (ErrsAt (w.alloc (.cells (errsC A) 38)) A) := Lib.hid (H.out.ext hx)
  clear v0 v1 v2 v3 v4 v5 v6 v7 v8 v9 v10 v11 v12 v13 v14 v15 v16 v17 v18 v19 v20 H
  have ew : w.alloc (.cells (errsC A) 38) = w.alloc (.cells #[.iface 142 (.pointer (some (A 0))), .iface 142 (.pointer (some (A 1))), .iface 142 (.pointer (some (A 2))), .iface 142 (.pointer (some (A 3))), .iface 142 (.pointer (some (A 4))), .iface 142 (.pointer (some (A 5))), .iface 142 (.pointer (some (A 6))), .iface 142 (.pointer (some (A 7))), .iface 142 (.pointer (some (A 8))), .iface 142 (.pointer (some (A 9))), .iface 142 (.pointer (some (A 10))), .iface 142 (.pointer (some (A 11))), .iface 142 (.pointer (some (A 12))), .iface 142 (.pointer (some (A 13))), .iface 142 (.pointer (some (A 14))), .iface 142 (.pointer (some (A 15))), .iface 142 (.pointer (some (A 16))), .iface 142 (.pointer (some (A 17))), .iface 142 (.pointer (some (A 18))), .iface 142 (.pointer (some (A 19))), .iface 142 (.pointer (some (A 20)))] 38) := rfl
  rw [← ew]
  clear ew
  generalize w.alloc (.cells (errsC A) 38) = w1 at *
  generalize w.heap.size = G at *
  go_loop [4, 5, 6, 33] (fun f _ _ j => ∃ k : Nat, k ≤ 21 ∧ j = .int .i64 k ∧ f = .int .i64 (if i < k then ((i + 1 : Nat) : Int) else -1)) (fun _ _ _ j => 21 - (intOf j).toNat)
  case atStart => exact ⟨0, by omega, rfl, by rw [if_neg (by omega)]⟩
  case round =>
    obtain ⟨k, hk, rfl, rfl⟩ := hrel
    by_cases hlt : k < 21
    · have c := hB.cell k
      rw [errsC_get A k hlt] at c
      unfold errV at c
      by_cases hki : k = i
      · subst hki
        have e : (if k < k then ((k + 1 : Nat) : Int) else -1) = -1 := if_neg (by omega)
        rw [e]
        clear e
        have hS := Lib.hid (fun W => is_same (A k) W)
        unfold errV at hS
        go_wp2_with (go_at_call 30; refine (hS.out _).mono ?_; rintro e w2 ⟨rfl, rfl⟩)
        go_round
        case rel => exact ⟨k + 1, hlt, by go_num, by rw [if_pos (by omega)]; go_num⟩
        case measure => simp [intOf]; omega
      · have hO := Lib.hid (fun (W : World) (hW : W = w1) => by
          subst hW
          obtain ⟨ca, ta, ha⟩ := hE.out.blk i hi
          obtain ⟨cb, tb, hb⟩ := hE.out.blk k hlt
          exact is_other (A i) (A k) ca cb ta tb W (hE.out.ne i k hi hlt (fun e => hki e.symm)) ha hb)
        unfold errV at hO
        have e : (if i < k then ((i + 1 : Nat) : Int) else -1) = (if i < k + 1 then ((i + 1 : Nat) : Int) else -1) := by
          by_cases h : i < k
          · rw [if_pos h, if_pos (by omega)]
          · rw [if_neg h, if_neg (by omega)]
        have HE := Lib.hid e
        clear e
        generalize (if i < k then ((i + 1 : Nat) : Int) else -1) = y at *
        go_wp2_with (go_at_call 30; refine (hO.out _ rfl).mono ?_; rintro e w2 ⟨rfl, rfl⟩)
        go_round
        case rel => exact ⟨k + 1, hlt, by go_num, by rw [HE.out]⟩
        case measure => simp [intOf]; omega
    · have e : (if i < k then ((i + 1 : Nat) : Int) else -1) = ((i + 1 : Nat) : Int) := if_pos (by omega)
      rw [e]
      clear e
      go_wp2
      go_ret
      exact ⟨rfl, hx⟩

end Go.Proofs.YtgfknlkpdiejgaaGreatDoor
