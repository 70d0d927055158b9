/- trawlref12.Laid and trawlref12.Spans as contracts. Condition: tree and parse lie in memory, the tree has few nodes; the subject has at most a million bytes. trawlref22.Spans as a contract: what ranked tells, if the tree takes the piece. Conditions: the tree lies in memory, the subject is short. ranked.Spans as a contract. Conditions: as Fnd's. A list of trees in memory, each in blocks of its own, as a list: one of them turned. No program. -/
import Derived.Test.YtgfknlkpdiejgaaGreatDoorZRankedSpansBE
import Derived.Test.YtgfknlkpdiejgaaGreatDoorZRankedSpansAR
import Derived.Test.YtgfknlkpdiejgaaGreatDoorZRankedSpansBB
import Derived.Test.YtgfknlkpdiejgaaGreatDoorZRankedSpansAT
import Derived.Test.YtgfknlkpdiejgaaGreatDoorZRankedSpansAC
namespace Go.Proofs.YtgfknlkpdiejgaaGreatDoor
open Go Go.RowKit

theorem zero_sp : (Tryz.prog.info? 52).map (fun i => i.zero) = some (some (.agg #[.int .i64 0, .int .i64 0])) := by kernel_rfl
section
variable {ops : Array Oper} {rest : List Oper} {o : Oper} {a : Act} {w : World} {Q : Exit → Act → World → Prop}
/-- A slice of one span, new. -/
theorem wpl_oneSp (hgd : o.guard = none) (x : Operand) (ho : o.op = .buildSlice 36 1 #[(0, x)]) (s : Int × Int) (hx : a.eval x = .agg #[.int .i64 s.1, .int .i64 s.2])
    (hK : ∀ g w1, Blk w1 g 52 #[.int .i64 s.1, .int .i64 s.2] → Ext w w1 → w.heap.size ≤ g → g < w1.heap.size → wpList Tryz.prog ops Q rest (a.put o.dst (.slice (some ⟨g, 0, none⟩) 1 1)) w1) : wpList Tryz.prog ops Q (o :: rest) a w := by
  obtain ⟨i, hi, hz⟩ := Option.map_eq_some_iff.1 zero_sp
  have hs : i.size = 2 := by have := info_sp; rw [hi] at this; simpa using this
  refine wpList_buildSlice hgd 36 52 1 _ ho #[.int .i64 s.1, .int .i64 s.2] i _ Tryz.underlying36 hi hz (by rw [hs]; decide) (by rw [hs]; decide) ?_ (hK _ _ (Blk.new w _ _) ((Ext.refl w).alloc _) (Nat.le_refl _) (by simp))
  rw [hs]
  have hf := Great.fill_whole (s := 2) (by decide) [Value.agg #[.int .i64 s.1, .int .i64 s.2]] ((Array.range (1 * 2)).map ((Value.agg #[.int .i64 0, .int .i64 0]).cells[· % (Value.agg #[.int .i64 0, .int .i64 0]).cells.size]!)) (fun v hv => by simp only [List.mem_singleton] at hv; subst hv; rfl) (by simp)
  have e : (List.map (fun x => (x.2, x.1)) ([Value.agg #[.int .i64 s.1, .int .i64 s.2]].zipIdx 0)) = (Array.map (fun x => (x.1, a.eval x.2)) #[(0, x)]).toList := by simp [hx]
  rw [e] at hf
  rw [hf]
  simp [Value.cells]
end

theorem rep_sp (k : Nat) : spR (List.replicate k (-1, -1)) ++ [spC (-1, -1)] = spR (List.replicate (k + 1) (-1, -1)) := by
  simp [spR, List.replicate_succ']
theorem spC_one (x : Int × Int) : ∀ u ∈ spC x, u.oneCell' = true := by
  intro u hu
  simp only [spC, List.mem_cons, List.not_mem_nil, or_false] at hu
  rcases hu with rfl | rfl <;> rfl

section
variable {s : ByteArray} {c e : Int}
set_option maxRecDepth 100000 in
set_option maxHeartbeats 4000000 in
theorem laidL_any (n : Nd) (svn : Value) (p : Ps) (svp : Value) (G : Nat) (w : World) (hn : NdCap w n svn) (hp : PsOk w p svp) (hf : formB n = true) (hsm : smallN n) (hps : smallP p) (hnu : (numsN n).length ≤ 1000000) (hG : G ≤ 999) (hpar : parseN s.size (leafB s c e) p n = true) :
    Calls Tryz.prog 34 #[nodeV n.h svn, psV p.d svp, .int .i64 G] w fun r w' => ∃ g cp, r = .returned (.slice (some ⟨g, 0, none⟩) (G + 1) cp) ∧ OwnSp w' w.heap.size (.slice (some ⟨g, 0, none⟩) (G + 1) cp) (spansN n p G) ∧ Ext w w' := by
  have HW := Lib.hid (fun (W : World) g nn cp l (hx : Ext w W) (hg : w.heap.size ≤ g) (hO : OwnSp W w.heap.size (.slice (some ⟨g, 0, none⟩) nn cp) l) => laid_any p n svn svp w W w.heap.size g nn cp l hn hp hf hsm hps hnu hpar hx hg hO)
  have HF := Lib.hid (show spansN n p G = walkN p n (spans0 p.d G) from rfl)
  clear hn hp hf hsm hps hnu hpar
  generalize spansN n p G = res at *
  generalize n.h = h at *
  generalize p.d = d at *
  go_enter Tryz.func34, Tryz.ntmps34
  go_upto_region 2 with (first
    | (refine wpl_boxNd rfl _ rfl h _ rfl ?_; intro z w1 hb hx1 ex sx)
    | (refine wpl_boxPs rfl _ rfl d _ rfl ?_; intro y w2 hc hx2 ey sy))
  have hx12 := hx1.trans hx2
  have hb2 := hb.ext hx2
  have HA := Lib.hid (fun W (hW : Ext w2 W) => (hb2.ext hW).nd)
  have HB := Lib.hid (fun W (hW : Ext w2 W) => (hc.ext hW).ps)
  have p0 : w2.cell? ⟨y, 0, none⟩ = some (.int .i64 d.a) := hc.cell 0
  have p1 : w2.cell? ⟨y, 1, none⟩ = some (.int .i64 d.b) := hc.cell 1
  have hyl := hc.lt
  have hzl := hb2.lt
  have HC2 := Lib.hid hc
  have HB2 := Lib.hid hb2
  clear hb hx1 hx2 ex sx ey sy hb2 hc
  have hO0 : OwnSp w2 w2.heap.size (.slice none 0 0) (List.replicate 0 (-1, -1)) := OwnR.nil _ _ _ _
  have hx22 := Ext.refl w2
  go_wp2
  go_loopw [7, 8] (fun v i wr => ∃ k : Nat, k ≤ G + 1 ∧ i = .int .i64 k ∧ OwnSp wr w2.heap.size v (List.replicate k (-1, -1)) ∧ Ext w2 wr) (fun _ i _ => G + 1 - (intOf i).toNat)
  case atStart => exact ⟨0, Nat.zero_le _, rfl, hO0, hx22⟩
  case round =>
    clear hO0 hx22
    obtain ⟨k, hk, rfl, hO, hxr⟩ := hrel
    by_cases hlt : k < G + 1
    · have t1 : (k : Int) ≤ (G : Int) := by omega
      have HST := Lib.hid (rep_sp k)
      clear HF HW HA HB HC2 HB2 p0 p1
      go_upto_region 4 with (first
        | (refine wpl_oneSp rfl _ rfl (-1, -1) rfl ?_; intro g5 w5 hg5 hx5 e5 s5)
        | (refine wpList_appR rfl _ _ _ rfl w2.heap.size 52 _ 2 16 Tryz.underlying36 info_spZ rfl (by decide) u7 _ rfl (OwnR.ext hO hx5) g5 1 (spC (-1, -1)) rfl rfl (fun i _ => by rw [hg5.cell]; simp [spC]) (spC_one _) (by rw [spR_len, List.length_replicate]; omega) (by rw [spR_len, List.length_replicate]; omega) (hxr.trans hx5).size ?_; intro v' w6 h1 h2 h3))
      have hO6 := h1
      rw [HST.out] at hO6
      have hx6 : Ext w2 w6 := (hxr.trans hx5).grown h2 (fun i hi => (OwnR.own hO i hi).1)
      clear h1 h2 h3 hg5 hx5 e5 s5 hO
      go_wp2
      go_roundw
      case rel => exact ⟨k + 1, by omega, by go_num, hO6, hx6⟩
      case measure => simp [intOf]; omega
    · have hkk : k = G + 1 := by omega
      subst hkk
      have t1 : ¬ ((G + 1 : Nat) : Int) ≤ (G : Int) := by omega
      obtain ⟨g, cp, rfl, hg, hgl, hcp⟩ := OwnR.form hO (by simp)
      simp only [spR_len, List.length_replicate] at hO
      have hgW : w.heap.size ≤ g := Nat.le_trans hx12.size hg
      replace p0 := hxr.cell p0
      replace p1 := hxr.cell p1
      have hO9 := OwnR.mono hO hx12.size
      have hxW := hx12.trans hxr
      have HLr := Lib.hid (show 0 < (List.replicate (G + 1) ((-1 : Int), (-1 : Int))).length by simp)
      have HSp := Lib.hid (show (List.replicate (G + 1) ((-1 : Int), (-1 : Int))).set 0 (d.a, d.b) = spans0 d G from rfl)
      have HA6 := Lib.hid (fun w6 (hk6 : Keeps (· = g) wr w6) => NdAt.keeps (HA.out wr hxr) hk6 (by omega))
      have HB6 := Lib.hid (fun w6 (hk6 : Keeps (· = g) wr w6) => PsAt.keeps (HB.out wr hxr) hk6 (by omega))
      clear hO hk hlt HA HB hg hgl hcp hxr HC2 HB2 hyl hzl hx12
      simp only [spR_len, List.length_replicate]
      generalize List.replicate (G + 1) ((-1 : Int), (-1 : Int)) = l0 at *
      generalize d.a = a at *
      generalize d.b = b at *
      go_upto_region 7 with (refine wpl_setSp rfl _ _ rfl rfl w.heap.size g _ cp l0 0 (a, b) rfl rfl hO9 HLr.out ?_; intro w6 hO6 hk6)
      rw [HSp.out] at hO6
      have hx6 := hxW.keep1 hk6 hgW
      have HAt := Lib.hid (HA6.out w6 hk6)
      have HBt := Lib.hid (HB6.out w6 hk6)
      have HC := Lib.hid (HW.out w6 g (G + 1) cp (spans0 d G) hx6 hgW hO6)
      rw [← HF.out] at HC
      clear hO9 hO6 hk6 HW HF HLr HSp HA6 HB6 hxW p0 p1
      go_wp2_with (first
        | (refine wpl_loadNd rfl _ rfl z 0 h _ rfl HAt.out ?_)
        | (refine wpl_loadPs rfl _ rfl y 0 d _ rfl HBt.out ?_)
        | (go_at_call 62; refine HC.out.mono ?_; rintro e w7 ⟨rfl, hO7, hk7⟩))
      go_ret
      exact ⟨g, cp, rfl, hO7, hx6.keep1 hk7 hgW⟩

end

end Go.Proofs.YtgfknlkpdiejgaaGreatDoor

namespace Go.Proofs.YtgfknlkpdiejgaaGreatDoor
open Go Go.RowKit

/-- What trawlref22.Spans and Find answer. -/
def SpnR (w : World) (o : Option (List (Int × Int))) (r : Ending) (w' : World) : Prop :=
  (o = none ∧ r = .returned (.tuple #[.slice none 0 0, .bool false]) ∧ Ext w w') ∨ (∃ l g cp, o = some l ∧ r = .returned (.tuple #[.slice (some ⟨g, 0, none⟩) l.length cp, .bool true]) ∧ OwnSp w' w.heap.size (.slice (some ⟨g, 0, none⟩) l.length cp) l ∧ Ext w w')
section
variable {s : ByteArray} {c e : Int}
set_option maxRecDepth 100000 in
set_option maxHeartbeats 16000000 in
theorem rspans_any (t : Nd) (svn : Value) (a b G : Nat) (w : World) (hs : s.size ≤ 900000) (ha : a ≤ s.size) (hb0 : b ≤ s.size) (hG : G ≤ 999) (hf : formB t = true) (hsm : smallN t) (hnu : (numsN t).length ≤ 1000000) (hn : NdCap w t svn) :
    Calls Tryz.prog 16 #[nodeV t.h svn, srV s c e false, .int .i64 a, .int .i64 b, .int .i64 G] w (SpnR w (spnL (lfR s c e false) t a b G)) := by
  have HTA := Lib.hid (fun W (hW : Ext w W) => rtakes_any (s := s) (c := c) (e := e) (tn := false) t svn a b W (by omega) ha hb0 hf hsm (NdOk.ext hW _ _ hn.ok))
  have HBS := Lib.hid (fun (h1 : tkN (lfR s c e false) t a b) W (hW : Ext w W) => best_any (s := s) (c := c) (e := e) (by omega) t svn a b W (NdCap.ext hW hn) hf hsm h1 hb0)
  have HLA := Lib.hid (fun (h1 : tkN (lfR s c e false) t a b) W svp (hW : Ext w W) (hp : PsOk W (bestN (lfR s c e false) t a b) svp) => laidL_any (s := s) (c := c) (e := e) t svn (bestN (lfR s c e false) t a b) svp G W (NdCap.ext hW hn) hp hf hsm (best_small (n := s.size) hs t hf hsm a b hb0) hnu hG (best_parse t hf a b h1 hb0))
  have HDC := Lib.hid (img_one (R := tkN (lfR s c e false) t) (a := a) (b := b))
  have HQ1 : Hid (a ≤ b → tkN (lfR s c e false) t a b → spnL (lfR s c e false) t a b G = some (spansN t (bestN (lfR s c e false) t a b) G)) := Lib.hid (fun h1 h2 => by unfold spnL; rw [if_pos ⟨h1, h2⟩, spans_told hf])
  have HQ0 : Hid (¬ (a ≤ b ∧ tkN (lfR s c e false) t a b) → spnL (lfR s c e false) t a b G = none) := Lib.hid (fun h1 => by unfold spnL; rw [if_neg h1])
  have HLN := Lib.hid (spansN_len t (bestN (lfR s c e false) t a b) G)
  have hsh := hn.ok.shape
  obtain ⟨tk, htk⟩ : ∃ tk, tk = img (tkN (lfR s c e false) t) (oneP a) b := ⟨_, rfl⟩
  rw [← htk] at HTA HDC
  generalize spnL (lfR s c e false) t a b G = res at *
  generalize spansN t (bestN (lfR s c e false) t a b) G = sp at *
  generalize bestN (lfR s c e false) t a b = pk at *
  generalize tkN (lfR s c e false) t a b = TK at *
  clear htk hn hf hsm hnu
  obtain ⟨A0, c0, hsv⟩ := hsh
  generalize t.subs.length = nl at *
  subst hsv
  generalize t.h = h at *
  unfold srV at *
  go_enter Tryz.func16, Tryz.ntmps16
  go_upto_region 1 with (refine wpl_boxNd rfl _ rfl h _ rfl ?_; intro z w1 hb hx1 ez sz)
  have hV := Blk.new w1 35 #[.string s, .int .i64 c, .int .i64 e, .bool false]
  have hx2 := hx1.alloc (.cells #[.string s, .int .i64 c, .int .i64 e, .bool false] 35)
  replace hb := hb.ext ((Ext.refl w1).alloc (.cells #[.string s, .int .i64 c, .int .i64 e, .bool false] 35))
  generalize w1.alloc (.cells #[.string s, .int .i64 c, .int .i64 e, .bool false] 35) = w2 at *
  generalize w1.heap.size = gu at *
  have HX2 := Lib.hid hx2
  have HZ := Lib.hid (fun W (hW : Ext w2 W) => (hb.ext hW).nd)
  have HU := Lib.hid (fun W (hW : Ext w2 W) => (⟨(hV.ext hW).cell 0, (hV.ext hW).cell 1, (hV.ext hW).cell 2, (hV.ext hW).cell 3⟩ : (W.cell? ⟨gu, 0, none⟩ = some (.string s) ∧ W.cell? ⟨gu, 1, none⟩ = some (.int .i64 c) ∧ W.cell? ⟨gu, 2, none⟩ = some (.int .i64 e) ∧ W.cell? ⟨gu, 3, none⟩ = some (.bool false))))
  clear hb hV hx1 ez sz hx2
  have KS := Lib.hid (fun w' (hw' : Ext w2 w') => (by
    have q1 := HZ.out w' hw'
    exact ⟨⟨q1 0 (by decide), q1 1 (by decide), q1 2 (by decide), q1 3 (by decide), q1 4 (by decide), q1 5 (by decide), q1 6 (by decide), q1 7 (by decide), q1 8 (by decide), q1 9 (by decide)⟩, HU.out w' hw'⟩ : (w'.cell? ⟨z, 0, none⟩ = some (.int .i64 h.kind) ∧ w'.cell? ⟨z, 1, none⟩ = some (.int .u64 (wd h.set 0 : Int)) ∧ w'.cell? ⟨z, 2, none⟩ = some (.int .u64 (wd h.set 1 : Int)) ∧ w'.cell? ⟨z, 3, none⟩ = some (.int .u64 (wd h.set 2 : Int)) ∧ w'.cell? ⟨z, 4, none⟩ = some (.int .u64 (wd h.set 3 : Int)) ∧ w'.cell? ⟨z, 5, none⟩ = some (.slice A0 nl c0) ∧ w'.cell? ⟨z, 6, none⟩ = some (.int .i64 h.num) ∧ w'.cell? ⟨z, 7, none⟩ = some (.int .i64 h.min) ∧ w'.cell? ⟨z, 8, none⟩ = some (.int .i64 h.max) ∧ w'.cell? ⟨z, 9, none⟩ = some (.bool h.bare)) ∧ (w'.cell? ⟨gu, 0, none⟩ = some (.string s) ∧ w'.cell? ⟨gu, 1, none⟩ = some (.int .i64 c) ∧ w'.cell? ⟨gu, 2, none⟩ = some (.int .i64 e) ∧ w'.cell? ⟨gu, 3, none⟩ = some (.bool false))))
  by_cases hab : b < a
  · have q1 : (b : Int) < (a : Int) := by omega
    have FIN := Lib.hid (HQ0.out (fun h => by omega))
    clear KS HZ HU HTA HBS HLA HDC HQ1 HQ0 hab
    go_wp2
    go_ret2
    exact .inl ⟨FIN.out, rfl, HX2.out⟩
  · have q1 : ¬ (b : Int) < (a : Int) := by omega
    obtain ⟨⟨y0, y1, y2, y3, y4, y5, y6, y7, y8, y9⟩, y10, y11, y12, y13⟩ := KS.out w2 (Ext.refl w2)
    have hnd := HZ.out w2 (Ext.refl w2)
    go_upto_region 4 with (first
      | (refine wpl_loadNd rfl _ rfl z 0 h _ rfl hnd ?_)
      | (go_at_call 33; refine (HTA.out w2 HX2.out).mono ?_; rintro e w3 ⟨rfl, hx3⟩))
    try simp only [Act.put, List.setIfInBounds_toArray, List.set_cons_zero, List.set_cons_succ]
    have HX3 := Lib.hid (HX2.out.trans hx3)
    clear y0 y1 y2 y3 y4 y5 y6 y7 y8 y9 y10 y11 y12 y13 hnd
    cases tk with
    | false =>
      have FIN := Lib.hid (HQ0.out (fun h => absurd (HDC.out.2 h.2) (by decide)))
      clear KS HZ HU HTA HBS HLA HDC HQ1 HQ0 hab q1
      go_wp2
      go_ret2
      exact .inl ⟨FIN.out, rfl, HX3.out⟩
    | true =>
      have htk := HDC.out.1 rfl
      have FIN := Lib.hid (HQ1.out (by omega) htk)
      have HB1 : Hid (∀ W, Ext w W → Calls Tryz.prog 35 #[.agg #[.int .i64 h.kind, .int .u64 (wd h.set 0 : Int), .int .u64 (wd h.set 1 : Int), .int .u64 (wd h.set 2 : Int), .int .u64 (wd h.set 3 : Int), .slice A0 nl c0, .int .i64 h.num, .int .i64 h.min, .int .i64 h.max, .bool h.bare], .agg #[.string s, .int .i64 c, .int .i64 e, .bool false], .int .i64 a, .int .i64 b] W (RetPsB W pk)) := Lib.hid (HBS.out htk)
      have HL1 : Hid (∀ W svp, Ext w W → PsOk W pk svp → Calls Tryz.prog 34 #[.agg #[.int .i64 h.kind, .int .u64 (wd h.set 0 : Int), .int .u64 (wd h.set 1 : Int), .int .u64 (wd h.set 2 : Int), .int .u64 (wd h.set 3 : Int), .slice A0 nl c0, .int .i64 h.num, .int .i64 h.min, .int .i64 h.max, .bool h.bare], .agg #[.int .i64 pk.d.a, .int .i64 pk.d.b, .int .i64 pk.d.k, svp], .int .i64 G] W fun r w' => ∃ g cp, r = .returned (.slice (some ⟨g, 0, none⟩) (G + 1) cp) ∧ OwnSp w' W.heap.size (.slice (some ⟨g, 0, none⟩) (G + 1) cp) sp ∧ Ext W w') := Lib.hid (fun W svp hW hp => HLA.out htk W svp hW hp)
      have HX23 := Lib.hid hx3
      clear HTA HBS HLA HDC HQ1 HQ0 hab q1 htk hx3
      go_upto_region 6 with fail
      have KS3 := Lib.hid (fun w' (hw' : Ext w3 w') => KS.out w' (HX23.out.trans hw'))
      clear KS HZ HU
      go_region_held3 (fun w' => (w'.cell? ⟨z, 0, none⟩ = some (.int .i64 h.kind) ∧ w'.cell? ⟨z, 1, none⟩ = some (.int .u64 (wd h.set 0 : Int)) ∧ w'.cell? ⟨z, 2, none⟩ = some (.int .u64 (wd h.set 1 : Int)) ∧ w'.cell? ⟨z, 3, none⟩ = some (.int .u64 (wd h.set 2 : Int)) ∧ w'.cell? ⟨z, 4, none⟩ = some (.int .u64 (wd h.set 3 : Int)) ∧ w'.cell? ⟨z, 5, none⟩ = some (.slice A0 nl c0) ∧ w'.cell? ⟨z, 6, none⟩ = some (.int .i64 h.num) ∧ w'.cell? ⟨z, 7, none⟩ = some (.int .i64 h.min) ∧ w'.cell? ⟨z, 8, none⟩ = some (.int .i64 h.max) ∧ w'.cell? ⟨z, 9, none⟩ = some (.bool h.bare)) ∧ (w'.cell? ⟨gu, 0, none⟩ = some (.string s) ∧ w'.cell? ⟨gu, 1, none⟩ = some (.int .i64 c) ∧ w'.cell? ⟨gu, 2, none⟩ = some (.int .i64 e) ∧ w'.cell? ⟨gu, 3, none⟩ = some (.bool false)))
        ((first | exact KS3.out _ (Ext.refl _).drew | exact KS3.out _ hX6 | exact KS3.out _ hX5))
        (first
          | (go_at_call 35; refine (HB1.out _ (HX3.out.trans (Ext.refl w3).drewr)).mono ?_; rintro e w5 ⟨sv5, rfl, hp5, hx5⟩; have hX5 : Ext w3 w5 := (Ext.refl w3).drewr.trans hx5; obtain ⟨A5, c5, hv5⟩ := hp5.ok.shape; subst hv5)
          | (go_at_call 34; refine (HL1.out _ _ (HX3.out.trans hX5) hp5.ok).mono ?_; rintro e w6 ⟨g6, c6, rfl, ho6, hx6⟩; have hX6 : Ext w3 w6 := hX5.trans hx6))
      all_goals
        have HF := Lib.hid (HX3.out.trans hX6)
        have hz5 : w.heap.size ≤ w5.heap.size := (HX3.out.trans hX5).size
        have HO := Lib.hid (OwnR.mono ho6 hz5)
        clear KS3 HB1 HL1 hp5 hx5 hx6 hX5 hX6 ho6
        go_wp2
        go_ret2
        exact .inr ⟨sp, g6, c6, FIN.out, by rw [HLN.out]; rfl, by rw [HLN.out]; exact HO.out, HF.out⟩
end

end Go.Proofs.YtgfknlkpdiejgaaGreatDoor

namespace Go.Proofs.YtgfknlkpdiejgaaGreatDoor
open Go Go.RowKit Classical

section
variable {s : ByteArray} {m : List UInt8} {x : Value}
set_option maxRecDepth 100000 in
set_option maxHeartbeats 16000000 in
theorem spans22_any (t : Nd) (svn : Value) (fr tt G : Int) (w : World) (A : Nat → Addr) (lim : Int) (hn : NdCap w t svn) (hS : IsScene w x s m) (hT : Tab w) (hE : Err3 w A) (v14 : w.cell? ⟨14, 0, none⟩ = some (errV (A 14))) (hlim : lim ≤ 1000000) (hfew : 0 ≤ leftN t lim) (hs0 : chkN t = 0 → s.size ≤ 1000000 ∧ m.length ≤ 10000000) (hsW : s.size ≤ 200000000000000) :
    Calls Tryz.prog 14 #[nodeV t.h svn, x, .int .i64 fr, .int .i64 tt, .int .i64 G] w (FndR w (askN t s.size G [fr, tt]) (spnL (lfM s m) t fr.toNat tt.toNat G.toNat) A) := by
  have hsm := small_left t lim hlim hfew
  have HA := Lib.hid (fun W (hW : Ext w W) sa (h : RdJ W sa [fr, tt]) => asked_any t svn x sa s m G [fr, tt] W A lim (hn.ok.ext hW) (hS.ext hW) h (hE.ext hW) (hW.cell v14) hlim hfew hsW (by simp))
  have HL := Lib.hid (fun W (hW : Ext w W) => len_any x s m W (hS.ext hW))
  obtain ⟨gx, hxv⟩ : ∃ gx, x = .pointer (some ⟨gx, 0, none⟩) := by obtain ⟨g, _, h, _⟩ := hS; exact ⟨g, h⟩
  subst hxv
  obtain ⟨k, hk⟩ : ∃ k, k = askN t s.size G [fr, tt] := ⟨_, rfl⟩
  rw [← hk] at HA
  rw [← hk]
  by_cases h0 : k = 0
  case neg =>
    have HA1 : Hid (∀ W (_ : Ext w W) sa (_ : RdJ W sa [fr, tt]), Calls Tryz.prog 23 #[nodeV t.h svn, .pointer (some ⟨gx, 0, none⟩), .int .i64 G, sa] W fun r w' => r = .returned (.tuple #[.pointer none, .iface 142 (.pointer (some (A (k - 1))))]) ∧ Ext W w') := Lib.hid (fun W hW sa h => (HA.out W hW sa h).mono fun r w' hr => by
      rcases hr with ⟨_, h2, h3⟩ | ⟨h1, _⟩
      · exact ⟨h2, h3⟩
      · exact absurd h1 h0)
    have FIN : Hid (∀ W e, e = Ending.returned (.tuple #[.slice none 0 0, .bool false, .iface 142 (.pointer (some (A (k - 1))))]) → Ext w W → FndR w k (spnL (lfM s m) t fr.toNat tt.toNat G.toNat) A e W) := Lib.hid (fun W e h1 h2 => .inl ⟨h0, h1, h2⟩)
    generalize spnL (lfM s m) t fr.toNat tt.toNat G.toNat = res at *
    generalize A (k - 1) = aa at *
    generalize t.h = h at *
    clear HA hk h0 hn hS hT hE v14 hlim hfew hs0 hsW HL hsm
    go_enter Tryz.func14, Tryz.ntmps14
    go_upto_region 1 with (refine wpl_boxNd rfl _ rfl h _ rfl ?_; intro z w1 hb hx1 ez sz)
    go_wp2_with (first
      | (refine wpl_loadNd rfl _ rfl z 0 h _ rfl hb.nd ?_)
      | (go_at_call 23; refine (HA1.out _ (hx1.alloc _) _ (rdi_new (l := [fr, tt]) rfl)).mono ?_; rintro e w3 ⟨rfl, hx3⟩))
    go_ret3
    exact FIN.out _ _ rfl ((hx1.alloc _).trans hx3)
  obtain ⟨h1, h2, h3, h4⟩ := ask_ok (hk.symm.trans h0)
  obtain ⟨hs, hm⟩ := hs0 h1
  have hf := (chk_ok h1).1
  obtain ⟨gn, rfl⟩ := Int.eq_ofNat_of_zero_le h3
  obtain ⟨⟨hi1, hi0⟩, hj1, hj0⟩ := out_two h2
  obtain ⟨i0, rfl⟩ := Int.eq_ofNat_of_zero_le hi1
  obtain ⟨j0, rfl⟩ := Int.eq_ofNat_of_zero_le hj1
  replace hi0 : i0 ≤ s.size := by omega
  replace hj0 : j0 ≤ s.size := by omega
  simp only [Int.toNat_natCast]
  have HA2 : Hid (∀ W (_ : Ext w W) sa (_ : RdJ W sa [(i0 : Int), (j0 : Int)]), Calls Tryz.prog 23 #[nodeV t.h svn, .pointer (some ⟨gx, 0, none⟩), .int .i64 gn, sa] W fun r w' => ∃ ge g, r = .returned (.tuple #[.pointer (some ⟨ge, 0, none⟩), .nilIface]) ∧ EnSp w' ge (.pointer (some ⟨gx, 0, none⟩)) (s.size / 64 + 1) g (gn + 1) (gn + 1) ∧ OwnSp w' w.heap.size (.slice (some ⟨g, 0, none⟩) (gn + 1) (gn + 1)) (List.replicate (gn + 1) (-1, -1)) ∧ ge ≠ g ∧ w.heap.size ≤ g ∧ Ext W w') := Lib.hid (fun W hW sa h => (HA.out W hW sa h).mono fun r w' hr => by
    rcases hr with ⟨h5, _⟩ | ⟨_, ge, g, h5, h6, h7, h8, h9, h10⟩
    · exact absurd h0 h5
    · have := hW.size
      exact ⟨ge, g, h5, h6, OwnR.mono h7 hW.size, h8, by omega, h10⟩)
  have HON := Lib.hid (fun ge g i W (h : EnSp W ge (.pointer (some ⟨gx, 0, none⟩)) (s.size / 64 + 1) g (gn + 1) (gn + 1)) (hi : i ≤ s.size) => only_any (.pointer (some ⟨ge, 0, none⟩)) (.pointer (some ⟨gx, 0, none⟩)) (.slice (some ⟨g, 0, none⟩) (gn + 1) (gn + 1)) (s.size / 64 + 1) i W ⟨ge, rfl, h⟩ (by omega) (by omega))
  have HLD := Lib.hid (fun ge g i W v z (hW : Ext w W) (h : EnSp W ge (.pointer (some ⟨gx, 0, none⟩)) (s.size / 64 + 1) g (gn + 1) (gn + 1)) (hi : i ≤ s.size) (hz : NdAt W z 0 t.h svn) (hr : RdP W v (s.size / 64 + 1) (oneP i)) => show Calls Tryz.prog 25 #[.pointer (some ⟨ge, 0, none⟩), .pointer (some ⟨z, 0, none⟩), v, .bool false] W (LdR W (s.size / 64 + 1) v (img (tkN (lfM s m) t) (oneP i))) from lead_any (x := .pointer (some ⟨gx, 0, none⟩)) (s := s) (m := m) (nw := s.size / 64 + 1) (by omega) (by omega) hs hm t hsm (.pointer (some ⟨ge, 0, none⟩)) (.slice (some ⟨g, 0, none⟩) (gn + 1) (gn + 1)) svn v z 0 false (oneP i) W hf ⟨ge, rfl, h⟩ (hS.ext hW) hz (hn.ok.ext hW) (hT.ext hW) hr (PlN.one hi))
  have HMON := tkN_mon (lfM_ok s m) t
  have HHS := Lib.hid (fun W v (hr : RdP W v (s.size / 64 + 1) (img (tkN (lfM s m) t) (oneP i0))) => (hasP_any v (s.size / 64 + 1) (img (tkN (lfM s m) t) (oneP i0)) j0 W hr (by omega) (by omega)))
  have HTO := Lib.hid (fun a b ge g W (hx : Ext w W) hE hO hne hg ht hb => told_from (x := .pointer (some ⟨gx, 0, none⟩)) (s := s) (m := m) t svn a b gn ge g w W lim hn hS hT hlim hfew hs hm hf hx hE hO hne hg ht hb)
  have HMN := Lib.hid HMON
  have HFN : Hid (spnL (lfM s m) t i0 j0 gn = if i0 ≤ j0 ∧ tkN (lfM s m) t i0 j0 then some (toldN (lfM s m) t i0 j0 gn) else none) := Lib.hid rfl
  have HIM : Hid (img (tkN (lfM s m) t) (oneP i0) j0 = true ↔ tkN (lfM s m) t i0 j0) := Lib.hid img_one
  generalize spnL (lfM s m) t i0 j0 gn = res at *
  have HK0 := Lib.hid h0
  have hss := hs
  clear HA hk h0 h1 h2 h3 h4 hn hS hT hE v14 hlim hfew hs hs0 hsW hm hsm HMON hf
  generalize tkN (lfM s m) t = R at *
  generalize hto : toldN (lfM s m) t = TO at *
  clear hto
  generalize t.h = h at *
  go_enter Tryz.func14, Tryz.ntmps14
  go_upto_region 1 with (refine wpl_boxNd rfl _ rfl h _ rfl ?_; intro z w1 hb hx1 ez sz)
  go_upto_region 2 with (first
    | (refine wpl_loadNd rfl _ rfl z 0 h _ rfl hb.nd ?_)
    | (go_at_call 23; refine (HA2.out _ (hx1.alloc _) _ (rdi_new (l := [(i0 : Int), (j0 : Int)]) rfl)).mono ?_; rintro e w3 ⟨ge, g, rfl, hE3, hO3, hne, hg, hx3⟩))
  have hx03 := (hx1.alloc (.cells #[.int .i64 i0, .int .i64 j0] 3)).trans hx3
  have hbz := (hb.ext ((Ext.refl w1).alloc (.cells #[.int .i64 i0, .int .i64 j0] 3))).ext hx3
  have HBZ := Lib.hid hbz
  have HX3 := Lib.hid hx03
  have HE3 := Lib.hid hE3
  have HO3 := Lib.hid hO3
  have HNE := Lib.hid hne
  have HG := Lib.hid hg
  have HXA : Hid (∀ W, Ext w3 W → Ext w W) := Lib.hid (fun W hW => HX3.out.trans hW)
  have HFI : Hid (∀ W e l c, e = Ending.returned (.tuple #[.slice (some ⟨g, 0, none⟩) l.length c, .bool true, .nilIface]) → OwnSp W w.heap.size (.slice (some ⟨g, 0, none⟩) l.length c) l → Ext w W → res = some l → FndR w k res A e W) := Lib.hid (fun W e l c h1 h2 h3 h4 => .inr (.inr ⟨HK0.out, l, g, c, h4, h1, h2, h3⟩))
  have HFE : Hid (∀ W e, e = Ending.returned (.tuple #[.slice none 0 0, .bool false, .nilIface]) → Ext w W → res = none → FndR w k res A e W) := Lib.hid (fun W e h1 h2 h3 => .inr (.inl ⟨HK0.out, h3, h1, h2⟩))
  clear hx03 hbz hx1 hb ez sz hx3 hE3 hO3 hne hg HA2 HK0
  by_cases hij : i0 ≤ j0
  case neg =>
    have q9 : ((j0 : Int) < (i0 : Int)) := by omega
    have FIN : Hid (res = none) := Lib.hid (by rw [HFN.out, if_neg (fun e => hij e.1)])
    go_wp2
    go_ret3
    exact HFE.out _ _ rfl HX3.out FIN.out
  have q9 : ¬ ((j0 : Int) < (i0 : Int)) := by omega
  have HON2 := Lib.hid (HON.out ge g i0 w3 HE3.out hi0)
  have HLD2 := Lib.hid (fun W v (hW : Ext w3 W) hr => HLD.out ge g i0 W v z (HXA.out _ hW) (HE3.out.ext hW) hi0 (HBZ.out.ext hW).nd hr)
  generalize img R (oneP i0) = q at *
  by_cases hq : q j0 = true
  case neg =>
    have hq' : q j0 = false := by simpa using hq
    have FIN : Hid (res = none) := Lib.hid (by rw [HFN.out, if_neg (fun e => hq (HIM.out.2 e.2))])
    rw [hq'] at HHS
    clear hq hq'
    go_wp2_with (first
      | (go_at_call 32; refine (HHS.out _ _ hr6).mono ?_; rintro e w7 ⟨rfl, rfl⟩)
      | (go_at_call 25; refine (HLD2.out _ _ hx5 (RdP.of_own ho5)).mono ?_; rintro e w6 ⟨v6, rfl, hx6, hr6, _⟩; obtain ⟨A6, c6, hv6, _⟩ := hr6.shape; subst hv6)
      | (go_at_call 26; refine HON2.out.mono ?_; rintro e w5 ⟨v5, rfl, ho5, hx5⟩; obtain ⟨g5, c5, cur5, hv5, _⟩ := own_words ho5 (Nat.succ_pos _); subst hv5))
    go_ret3
    exact HFE.out _ _ rfl (HXA.out _ (hx5.trans hx6)) FIN.out
  have ht := HIM.out.1 hq
  have HF2 : Hid (res = some (TO i0 j0 gn)) := Lib.hid (by rw [HFN.out, if_pos ⟨hij, ht⟩])
  have HTO2 := Lib.hid (fun W (hW : Ext w3 W) => HTO.out i0 j0 ge g W (HXA.out _ hW) (HE3.out.ext hW) (OwnR.ext HO3.out hW) HNE.out HG.out ht hj0)
  rw [hq] at HHS
  clear ht hq
  go_upto_region 4 with (first
    | (go_at_call 32; refine (HHS.out _ _ hr6).mono ?_; rintro e w7 ⟨rfl, rfl⟩)
    | (go_at_call 25; refine (HLD2.out _ _ hx5 (RdP.of_own ho5)).mono ?_; rintro e w6 ⟨v6, rfl, hx6, hr6, _⟩; obtain ⟨A6, c6, hv6, _⟩ := hr6.shape; subst hv6)
    | (go_at_call 26; refine HON2.out.mono ?_; rintro e w5 ⟨v5, rfl, ho5, hx5⟩; obtain ⟨g5, c5, cur5, hv5, _⟩ := own_words ho5 (Nat.succ_pos _); subst hv5))
  have hx36 := hx5.trans hx6
  have hbz := HBZ.out.ext hx36
  have HTO3 := Lib.hid (HTO2.out w6 hx36)
  go_wp2_with (first
    | (refine wpl_loadNd rfl _ rfl z 0 h _ rfl hbz.nd ?_)
    | (go_at_call 28; refine HTO3.out.mono ?_; rintro e w8 ⟨rfl, ho8, hx8⟩))
  go_ret3
  exact HFI.out _ _ _ _ rfl ho8 hx8 HF2.out
end

end Go.Proofs.YtgfknlkpdiejgaaGreatDoor

namespace Go.Proofs.YtgfknlkpdiejgaaGreatDoor
open Go Go.RowKit

structure KidsAt (W : World) (g : Nat) (l : List Kid) : Prop where
  at_ : ∀ j x, l[j]? = some x → NdAt W g (j * 10) x.1.h x.2.1
  kid : ∀ x ∈ l, NdFp W x.1 x.2.1 x.2.2
  blk : ∃ t cur, Blk W g t cur
theorem ndsFp_kids {W : World} {g : Nat} : ∀ (subs : List Nd) (k : Nat) (fps : List Nat), NdsFp W subs g k fps →
    ∃ l : List Kid, subs = l.map (·.1) ∧ fps = kidsFp l ∧ (∀ j x, l[j]? = some x → NdAt W g ((k + j) * 10) x.1.h x.2.1) ∧ ∀ x ∈ l, NdFp W x.1 x.2.1 x.2.2
  | [], k, fps, h => by
    unfold NdsFp at h
    exact ⟨[], rfl, h, (fun j x hj => by simp at hj), (fun x hx => by cases hx)⟩
  | n :: r, k, fps, h => by
    unfold NdsFp at h
    obtain ⟨f1, f2, sv, rfl, h1, h2, h3⟩ := h
    obtain ⟨l, rfl, rfl, h4, h5⟩ := ndsFp_kids r (k + 1) f2 h3
    refine ⟨(n, sv, f1) :: l, rfl, rfl, fun j x hj => ?_, fun x hx => ?_⟩
    · cases j with
      | zero =>
        simp only [List.getElem?_cons_zero, Option.some.injEq] at hj
        subst hj
        exact h1
      | succ j =>
        rw [show k + (j + 1) = k + 1 + j by omega]
        exact h4 j x (by simpa using hj)
    · rcases List.mem_cons.1 hx with rfl | hx
      · exact h2
      · exact h5 x hx
theorem NdFp.kids {W : World} {h : Hd} {subs : List Nd} {sv : Value} {fp : List Nat} (hn : NdFp W (.mk h subs) sv fp) (hne : subs ≠ []) :
    ∃ g c l, sv = .slice (some ⟨g, 0, none⟩) subs.length c ∧ fp = g :: kidsFp l ∧ subs = l.map (·.1) ∧ KidsAt W g l := by
  unfold NdFp at hn
  rcases hn with ⟨h0, _⟩ | ⟨g, c, fps, rfl, rfl, ⟨hb, _⟩, hs⟩
  · exact absurd h0 hne
  · obtain ⟨l, rfl, rfl, h1, h2⟩ := ndsFp_kids _ _ _ hs
    exact ⟨g, c, l, rfl, rfl, rfl, fun j x hj => by have := h1 j x hj; rwa [Nat.zero_add] at this, h2, hb⟩
theorem KidsAt.node {W : World} {g c : Nat} {l : List Kid} (hk : KidsAt W g l) (h : Hd) (hc : l.length ≤ c) : NdFp W (.mk h (l.map (·.1))) (.slice (some ⟨g, 0, none⟩) l.length c) (g :: kidsFp l) := by
  unfold NdFp
  refine .inr ⟨g, c, kidsFp l, by simp, rfl, ⟨hk.blk, by simpa using hc⟩, ndsFp_of l 0 (fun j x hj i hi => ?_) hk.kid⟩
  rw [Nat.zero_add]
  exact hk.at_ j x hj i hi
theorem kids_disj : ∀ {l : List Kid}, (kidsFp l).Nodup → ∀ {j k : Nat} {x y : Kid}, j ≠ k → l[j]? = some x → l[k]? = some y → ∀ b ∈ x.2.2, b ∉ y.2.2
  | [], _, j, k, x, y, _, hj, _ => by simp at hj
  | a :: l, hn, j, k, x, y, hne, hj, hk => by
    have hn' : (a.2.2 ++ kidsFp l).Nodup := hn
    rw [List.nodup_append] at hn'
    have hmem : ∀ {i : Nat} {z : Kid}, l[i]? = some z → ∀ b ∈ z.2.2, b ∈ kidsFp l := fun hi b hb => List.mem_flatMap.2 ⟨_, List.mem_of_getElem? hi, hb⟩
    cases j with
    | zero =>
      cases k with
      | zero => exact absurd rfl hne
      | succ k =>
        simp only [List.getElem?_cons_zero, Option.some.injEq] at hj
        subst hj
        exact fun b hb hb2 => hn'.2.2 b hb b (hmem (by simpa using hk) b hb2) rfl
    | succ j =>
      cases k with
      | zero =>
        simp only [List.getElem?_cons_zero, Option.some.injEq] at hk
        subst hk
        exact fun b hb hb2 => hn'.2.2 b hb2 b (hmem (by simpa using hj) b hb) rfl
      | succ k => exact kids_disj (j := j) (k := k) hn'.2.1 (fun e => hne (by rw [e])) (by simpa using hj) (by simpa using hk)
/-- One of them turned, in a world that keeps all else. -/
theorem KidsAt.turn {W W' : World} {F : Nat → Prop} {g k : Nat} {l : List Kid} {n n' : Nd} {sv : Value} {f : List Nat} (h : KidsAt W g l) (hk : l[k]? = some (n, sv, f)) (hF : Keeps F W W') (hg : ¬ F g)
    (hlt : ∀ b ∈ kidsFp l, b < W.heap.size) (hoth : ∀ j x, j ≠ k → l[j]? = some x → ∀ b ∈ x.2.2, ¬ F b) (hn : NdFp W' n' sv f) (hh : n'.h = n.h) : KidsAt W' g (l.set k (n', sv, f)) := by
  have hkl : k < l.length := (List.getElem?_eq_some_iff.1 hk).1
  have hmem : ∀ {i : Nat} {z : Kid}, l[i]? = some z → ∀ b ∈ z.2.2, b ∈ kidsFp l := fun hi b hb => List.mem_flatMap.2 ⟨_, List.mem_of_getElem? hi, hb⟩
  refine ⟨fun j x hj => ?_, fun x hx => ?_, ?_⟩
  · by_cases hjk : j = k
    · subst hjk
      rw [List.getElem?_set_self hkl, Option.some.injEq] at hj
      subst hj
      have := (h.at_ j _ hk).keeps hF hg
      simpa [hh] using this
    · rw [List.getElem?_set_ne (fun e => hjk e.symm)] at hj
      exact (h.at_ j x hj).keeps hF hg
  · obtain ⟨j, hj⟩ := List.getElem?_of_mem hx
    by_cases hjk : j = k
    · subst hjk
      rw [List.getElem?_set_self hkl, Option.some.injEq] at hj
      subst hj
      exact hn
    · rw [List.getElem?_set_ne (fun e => hjk e.symm)] at hj
      exact (h.kid x (List.mem_of_getElem? hj)).keep fun b hb => hF.block b (hlt b (hmem hj b hb)) (hoth j x hjk hj b hb)
  · obtain ⟨t, cur, hb⟩ := h.blk
    exact ⟨t, cur, hb.keeps hF hg⟩
/-- The number in one's head turned. -/
theorem KidsAt.num {W : World} {g k : Nat} {l : List Kid} {hd : Hd} {s : List Nd} {sv : Value} {f : List Nat} (h : KidsAt W g l) (hk : l[k]? = some (.mk hd s, sv, f)) (hg : g ∉ kidsFp l) (m : Int) :
    KidsAt (W.setCell ⟨g, k * 10 + 6, none⟩ (.int .i64 m)) g (l.set k (.mk { hd with num := m } s, sv, f)) := by
  have hkl : k < l.length := (List.getElem?_eq_some_iff.1 hk).1
  have hmem : ∀ {i : Nat} {z : Kid}, l[i]? = some z → ∀ b ∈ z.2.2, b ∈ kidsFp l := fun hi b hb => List.mem_flatMap.2 ⟨_, List.mem_of_getElem? hi, hb⟩
  obtain ⟨t, cur, hb⟩ := h.blk
  have far : ∀ b ∈ kidsFp l, SameAt W (W.setCell ⟨g, k * 10 + 6, none⟩ (.int .i64 m)) b := fun b hb => Below.heap_setCell W _ _ b (fun e => hg (by simpa [e] using hb))
  refine ⟨fun j x hj => ?_, fun x hx => ?_, ⟨t, _, hb.set _ _⟩⟩
  · have cellOf : ∀ i, (W.setCell ⟨g, k * 10 + 6, none⟩ (.int .i64 m)).cell? ⟨g, i, none⟩ = if k * 10 + 6 = i ∧ i < cur.size then some (.int .i64 m) else W.cell? ⟨g, i, none⟩ := fun i => by
      rw [(hb.set (k * 10 + 6) (.int .i64 m)).cell, hb.cell, Array.getElem?_setIfInBounds]
      by_cases h1 : k * 10 + 6 = i
      · subst h1
        by_cases h2 : k * 10 + 6 < cur.size
        · rw [if_pos rfl, if_pos h2, if_pos ⟨rfl, h2⟩]
        · rw [if_pos rfl, if_neg h2, if_neg (fun hc => h2 hc.2), Array.getElem?_eq_none (by omega)]
      · rw [if_neg h1, if_neg (fun hc => h1 hc.1)]
    by_cases hjk : j = k
    · subst hjk
      rw [List.getElem?_set_self hkl, Option.some.injEq] at hj
      subst hj
      intro i hi
      have h6 := h.at_ j _ hk i hi
      rw [cellOf]
      by_cases hi6 : i = 6
      · subst hi6
        have hsz : j * 10 + 6 < cur.size := by
          rw [hb.cell] at h6
          exact (Array.getElem?_eq_some_iff.1 h6).1
        rw [if_pos ⟨rfl, hsz⟩]
        rfl
      · rw [if_neg (by omega), h6]
        rcases (show i = 0 ∨ i = 1 ∨ i = 2 ∨ i = 3 ∨ i = 4 ∨ i = 5 ∨ i = 7 ∨ i = 8 ∨ i = 9 from by omega) with rfl | rfl | rfl | rfl | rfl | rfl | rfl | rfl | rfl <;> rfl
    · rw [List.getElem?_set_ne (fun e => hjk e.symm)] at hj
      intro i hi
      rw [cellOf, if_neg (by omega)]
      exact h.at_ j x hj i hi
  · obtain ⟨j, hj⟩ := List.getElem?_of_mem hx
    by_cases hjk : j = k
    · subst hjk
      rw [List.getElem?_set_self hkl, Option.some.injEq] at hj
      subst hj
      have := (h.kid _ (List.mem_of_getElem? hk)).keep fun b hb => far b (hmem hk b hb)
      unfold NdFp at this ⊢
      exact this
    · rw [List.getElem?_set_ne (fun e => hjk e.symm)] at hj
      exact (h.kid x (List.mem_of_getElem? hj)).keep fun b hb => far b (hmem hj b hb)
theorem kidsFp_set {l : List Kid} {k : Nat} {n n' : Nd} {sv : Value} {f : List Nat} (hk : l[k]? = some (n, sv, f)) : kidsFp (l.set k (n', sv, f)) = kidsFp l := by
  unfold kidsFp
  rw [List.flatMap_def, List.flatMap_def, List.map_set]
  congr 1
  refine List.ext_getElem? fun j => ?_
  rw [List.getElem?_set]
  by_cases h : k = j
  · subst h
    have hkl : k < l.length := (List.getElem?_eq_some_iff.1 hk).1
    rw [if_pos rfl, if_pos (by simpa using hkl), List.getElem?_map, hk]
    rfl
  · rw [if_neg h]

theorem kidsFp_snd {l l' : List Kid} (h : l.map (·.2) = l'.map (·.2)) : kidsFp l = kidsFp l' := by
  have e : ∀ l : List Kid, kidsFp l = (l.map (·.2)).flatMap (·.2) := fun l => by simp [kidsFp, List.flatMap_map]
  rw [e, e, h]
theorem kid_nodup {l : List Kid} (h : (kidsFp l).Nodup) {x : Kid} (hx : x ∈ l) : x.2.2.Nodup := by
  unfold kidsFp at h
  obtain ⟨a1, a2, rfl⟩ := List.append_of_mem hx
  rw [List.flatMap_append, List.flatMap_cons] at h
  exact (List.nodup_append.1 (List.nodup_append.1 h).2.1).1
theorem kid_sub {l : List Kid} {x : Kid} (hx : x ∈ l) : ∀ b ∈ x.2.2, b ∈ kidsFp l := fun _ hb => List.mem_flatMap.2 ⟨x, hx, hb⟩
/-- A world that keeps all blocks of the list. -/
theorem KidsAt.keeps {W W' : World} {F : Nat → Prop} {g : Nat} {l : List Kid} (h : KidsAt W g l) (hF : Keeps F W W') (hg : ¬ F g) (hlt : ∀ b ∈ kidsFp l, b < W.heap.size ∧ ¬ F b) : KidsAt W' g l := by
  refine ⟨fun j x hj => (h.at_ j x hj).keeps hF hg, fun x hm => (h.kid x hm).keep fun y hy => ?_, ?_⟩
  · have := hlt y (kid_sub hm y hy)
    exact hF.block y this.1 this.2
  · obtain ⟨t, cur, hb⟩ := h.blk
    exact ⟨t, cur, hb.keeps hF hg⟩

end Go.Proofs.YtgfknlkpdiejgaaGreatDoor
