/- FaultWraps' walk; an argument of type trawlref03.Link opened. Condition: where the error values lie, and the library's two variables. -/
import Derived.Test.YtkcgbdoplhgbmaaDoorFHld
namespace Go.Proofs.YtkcgbdoplhgbmaaDoor
open Go Go.RowKit Go.Extern.Stop Go.Stop Go.Extern Go.ChangeShapes Go.WideShapes Go.Deep

section
variable {H : Type} {enc : TypeId × Value → H} {w : World} {base : Nat} {spare : Nat → Bool} {held : Bool}
set_option maxRecDepth 100000 in
theorem open_link {r : Reach} {b0 : Nat} {v : Value} {d : DataW H} {qs : List MemPlace} (hval : Value.okWide Tryd.prog w r b0 66 v) (h : DataW.Trod enc Tryd.prog w base spare held 66 v d qs) : ∃ (i : Bool) (m : Int), v = .agg #[.bool i, .int .i64 m] := by
  obtain ⟨cs, rfl, hsz⟩ := okWide_struct Tryd.underlying66 hval
  obtain ⟨fuel, hf⟩ := h
  obtain ⟨xs, m, _, _, hl, hxs, hf⟩ := DataW.trod_struct Tryd.underlying66 hf
  rw [cells_lnk] at hl
  obtain ⟨l⟩ := cs
  simp only [Value.cells] at hl hf
  obtain ⟨c0, c1, rfl⟩ : ∃ c0 c1, l = [c0, c1] := by
    match l, hl with
    | [c0, c1], _ => exact ⟨c0, c1, rfl⟩
  have hs : ∀ i, i < 2 → ∃ y, xs[i]? = some y := fun i hi => ⟨_, List.getElem?_eq_getElem (by rw [hxs]; exact hi)⟩
  have f0 : DataW.trod enc Tryd.prog w base spare held m 4 (List.take (Tryd.prog.cellsOf 4) (List.drop 0 [c0, c1])) = xs[0]? := hf 0 _ rfl
  have f1 : DataW.trod enc Tryd.prog w base spare held m 3 (List.take (Tryd.prog.cellsOf 3) (List.drop 1 [c0, c1])) = xs[1]? := hf 1 _ rfl
  obtain ⟨y0, hy0⟩ := hs 0 (by omega)
  obtain ⟨y1, hy1⟩ := hs 1 (by omega)
  rw [hy0] at f0
  rw [hy1] at f1
  simp only [cells_lb, cells_li, List.drop_succ_cons, List.drop_zero, List.take_succ_cons, List.take_zero] at f0 f1
  obtain ⟨s, e0, _⟩ := DataW.trod_bool Tryd.underlying4 f0
  obtain ⟨n1, e1, _, _⟩ := DataW.trod_int Tryd.underlying3 f1
  simp only [List.cons.injEq, and_true] at e0 e1
  subst e0 e1
  exact ⟨s, n1, rfl⟩
end

set_option maxRecDepth 100000 in
set_option maxHeartbeats 4000000 in
theorem faultWraps_walk (n : Int) (sv : Value) (ls : List (Bool × Int)) (i : Bool) (m : Int) (A : Nat → Addr) (w : World) (hr : RdK w sv ls) (hl : okK ls) (hn : -9223372036854775808 ≤ n ∧ n ≤ 9223372036854775807) (hE : ErrsAt w A) (hL : LibV w) :
    Calls Tryd.prog 8 #[.int .i64 n, sv, .agg #[.bool i, .int .i64 m]] w fun e w' => e = .returned (.bool true) ∧ Ext w w' := by
  obtain ⟨a, c, rfl, hc⟩ := hr
  have hr : RdK w (.slice a ls.length c) ls := ⟨a, c, rfl, hc⟩
  clear hc
  obtain ⟨w0, hw0⟩ : ∃ w0, w0 = w.alloc (.cells #[.bool i, .int .i64 m] 66) := ⟨_, rfl⟩
  have hx0 : Ext w w0 := hw0 ▸ (Ext.refl w).alloc _
  have hb0 : Blk w0 w.heap.size 66 #[.bool i, .int .i64 m] := hw0 ▸ Blk.new w _ _
  have HLv := Lib.hid (flives_any A w0 (hE.ext hx0) (hL.ext hx0))
  by_cases hbig : 1000 < ls.length
  · have q1 : (1000 : Int) < (ls.length : Int) := by omega
    have HX0 := Lib.hid hx0
    clear hr hl hn hE hL hbig hx0 hb0
    go_enter Tryd.func8, Tryd.ntmps8
    go_upto_region 1 with fail
    rw [← hw0]
    clear hw0
    go_wp2_with (go_at_call 35; refine HLv.out.mono ?_; rintro e w1 ⟨rfl, hx1⟩; have HX1 := Lib.hid hx1; clear hx1)
    go_ret
    exact ⟨rfl, HX0.out.trans HX1.out⟩
  have q1 : ¬ (1000 : Int) < (ls.length : Int) := by omega
  have hlb : ls.length < 4611686018427387904 := by omega
  have HR := Lib.hid hr
  have HKr := Lib.hid (show okK ls.reverse from fun x hx => hl x (by simpa using hx))
  have HE := Lib.hid hE
  have HL := Lib.hid hL
  have HN := Lib.hid hn
  have HX0 := Lib.hid hx0
  have HB0 := Lib.hid hb0
  clear hr hl hn hE hL hbig hx0 hb0
  go_enter Tryd.func8, Tryd.ntmps8
  go_upto_region 1 with fail
  rw [← hw0]
  clear hw0
  generalize w.heap.size = G at *
  go_upto_region 6 with (first
    | (go_at_call 35; refine HLv.out.mono ?_; rintro e w1 ⟨rfl, hx1⟩; have HX1 := Lib.hid (HX0.out.trans hx1); have HX01 := Lib.hid hx1; clear hx1)
    | (go_at_call 37; refine (lsent_any A n w1 (HE.out.ext HX1.out) HN.out).mono ?_; rintro e w2 ⟨u, rfl, hx2, hf2⟩; have HX2 := Lib.hid (HX1.out.trans hx2); have HX02 := Lib.hid (HX01.out.trans hx2); have HF2 := Lib.hid hf2; clear hx2 hf2)
    | (go_at_call 36; refine (wrapped_any A n [] ls u _ w2 HF2.out (HR.out.ext HX2.out) hlb).mono ?_; rintro e w3 ⟨v, rfl, hx3, hf3⟩; have HX3 := Lib.hid (HX2.out.trans hx3); have HX03 := Lib.hid (HX02.out.trans hx3); have HF3 := Lib.hid hf3; clear hx3 hf3))
  have hB3 := HB0.out.ext HX03.out
  clear HX1 HX2 HX01 HX02 HF2 HLv HX0 HB0 HR HX03
  have HB3 := Lib.hid hB3
  clear hB3
  have hf3 := HF3.out
  rw [List.append_nil] at hf3
  have HF := Lib.hid hf3
  clear hf3 HF3
  have HT := Lib.hid (tell_any A n _ v w3 HF.out (HE.out.ext HX3.out) (HL.out.ext HX3.out) HKr.out)
  obtain ⟨s, hs⟩ : ∃ s, strV (tellF (codeP n) ls.reverse) = .string s := ⟨_, rfl⟩
  simp only [hs] at HT
  have HPx := Lib.hid (fun (W : World) (hx : Ext w3 W) => place_any A n _ v W (HF.out.ext hx) (HL.out.ext (HX3.out.trans hx)).et)
  have HIx := Lib.hid (fun (W : World) (hx : Ext w3 W) => index_any A n _ v W (HF.out.ext hx) (HL.out.ext (HX3.out.trans hx)).et)
  go_upto_region 9 with (first
    | (go_at_call 40; refine HT.out.mono ?_; rintro e w4 ⟨rfl, hx4⟩; have HX4 := Lib.hid hx4; clear hx4)
    | (go_at_call 42; refine (HPx.out _ HX4.out).mono ?_; rintro e w5 ⟨rfl, hx5⟩; have HX5 := Lib.hid (HX4.out.trans hx5); clear hx5)
    | (go_at_call 43; refine (HIx.out _ HX5.out).mono ?_; rintro e w6 ⟨rfl, hx6⟩; have HX6 := Lib.hid (HX5.out.trans hx6); clear hx6))
  clear HX4 HX5 HPx HIx HT
  have c0 : w6.cell? ⟨G, 0, none⟩ = some (.bool i) := (HB3.out.ext HX6.out).cell 0
  have c1 : w6.cell? ⟨G, 1, none⟩ = some (.int .i64 m) := (HB3.out.ext HX6.out).cell 1
  obtain ⟨w7, hw7⟩ : ∃ w7, w7 = w6.alloc (.cells #[.bool i, .int .i64 m] 66) := ⟨_, rfl⟩
  have HX7 := Lib.hid (show Ext w6 w7 from hw7 ▸ (Ext.refl w6).alloc _)
  have hk7 : RdK w7 (.slice (some ⟨w6.heap.size, 0, none⟩) 1 1) [(i, m)] := by
    refine ⟨_, 1, rfl, fun j hj => ⟨w6.heap.size, 0, rfl, ?_, ?_⟩⟩
    · have : j = 0 := by simpa using hj
      subst this
      rw [hw7]
      exact (Blk.new w6 _ _).cell 0
    · have : j = 0 := by simpa using hj
      subst this
      rw [hw7]
      exact (Blk.new w6 _ _).cell 1
  have HWr := Lib.hid (wrapped_any A n ls.reverse [(i, m)] v _ w7 (HF.out.ext (HX6.out.trans HX7.out)) hk7 (by simp))
  clear hk7
  have HV := Lib.hid (show ∃ w', w' = w7 from ⟨_, rfl⟩)
  clear HV
  rw [hw7] at HWr
  go_upto_region 10 with (go_at_call 36; refine HWr.out.mono ?_; rintro e w8 ⟨o, rfl, hx8, hf8⟩; have HX8 := Lib.hid hx8; have HF8 := Lib.hid hf8; clear hx8 hf8)
  rw [← hw7] at HX8
  clear HWr hw7 c0 c1
  have hx8 := (HX6.out.trans HX7.out).trans HX8.out
  have d0 : ∀ x : Ex w8, (plus w8 x).cell? ⟨G, 0, none⟩ = some (.bool i) := fun x => (HB3.out.ext (hx8.trans (plus_ext _ x))).cell 0
  have HB8 := Lib.hid (HB3.out.ext hx8)
  have HXA := Lib.hid (HX3.out.trans hx8)
  have HFv := Lib.hid (HF.out.ext hx8)
  have HKo : Hid (okK ls.reverse) := HKr
  clear d0 HX6 HX7 HX8 HF HB3 hx8 HX3
  by_cases h0 : n = 0
  · subst h0
    obtain rfl := HFv.out.nil
    obtain rfl := HF8.out.nil
    clear HFv HF8
    go_wp2
    go_ret
    exact ⟨rfl, HXA.out⟩
  obtain ⟨tv, xv, rfl⟩ := HFv.out.some h0
  obtain ⟨tt, xo, rfl⟩ := HF8.out.some h0
  have HNo := Lib.hid (fun W (hx : Ext w8 W) => num_ferr A n _ (.iface tt xo) W (HF8.out.ext hx) (HE.out.ext (HXA.out.trans hx)))
  have HNv := Lib.hid (fun W (hx : Ext w8 W) => num_ferr A n _ (.iface tv xv) W (HFv.out.ext hx) (HE.out.ext (HXA.out.trans hx)))
  have HCl := Lib.hid (fun (W : World) => code_law n W)
  have HTv := Lib.hid (fun W (hx : Ext w8 W) => tell_any A n _ (.iface tv xv) W (HFv.out.ext hx) (HE.out.ext (HXA.out.trans hx)) (HL.out.ext (HXA.out.trans hx)) HKo.out)
  simp only [hs] at HTv
  have hq : (s.toList != s.toList) = false := by simp
  have HPo := Lib.hid (fun (W : World) (hx : Ext w8 W) => place_any A n _ (.iface tt xo) W (HF8.out.ext hx) (HL.out.ext (HXA.out.trans hx)).et)
  have HIo := Lib.hid (fun (W : World) (hx : Ext w8 W) => index_any A n _ (.iface tt xo) W (HF8.out.ext hx) (HL.out.ext (HXA.out.trans hx)).et)
  have HBx := Lib.hid (fun (W : World) (hx : Ext w8 W) => HB8.out.ext hx)
  simp only [List.reverse_cons, List.reverse_nil, List.nil_append, List.cons_append] at HPo HIo
  simp only [plF, if_neg h0] at HPo HIo ⊢
  clear HFv HF8 HE HL HKr HKo HN hs h0 HB8
  cases i
  · have e0 : firstL false ((false, m) :: ls.reverse) = some m := rfl
    have e1 : firstL true ((false, m) :: ls.reverse) = firstL true ls.reverse := rfl
    rw [e0] at HPo
    rw [e1] at HIo
    clear e0 e1
    generalize codeP n = cn at *
    generalize firstL false ls.reverse = x at *
    generalize firstL true ls.reverse = y at *
    generalize x.getD 0 = x0 at *
    generalize y.getD 0 = y0 at *
    generalize x.isSome = x1 at *
    generalize y.isSome = y1 at *
    go_upto_region 14 with (first
    | (go_at_call 18; ((with_reducible refine (HNo.out _ (Ext.refl _)).mono ?_); rintro e w9 ⟨rfl, hx9⟩; have HX9 := Lib.hid hx9; clear hx9))
    | (go_at_call 18; ((with_reducible refine (HNv.out _ HX9.out).mono ?_); rintro e wa ⟨rfl, hxa⟩; have HX10 := Lib.hid (HX9.out.trans hxa); clear hxa HX9))
    | (go_at_call 18; ((with_reducible refine (HNv.out _ HX10.out).mono ?_); rintro e wb ⟨rfl, hxb⟩; have HX11 := Lib.hid (HX10.out.trans hxb); clear hxb))
    | (go_at_call 38; refine (HCl.out _).mono ?_; rintro e wc ⟨rfl, rfl⟩)
    | (go_at_call 40; refine (HTv.out _ HX11.out).mono ?_; rintro e wd ⟨rfl, hxd⟩; have HX12 := Lib.hid (HX11.out.trans hxd); clear hxd))
    go_upto_region 16 with (first
    | (go_at_call 42; refine (HPo.out _ HX12.out).mono ?_; rintro e we ⟨rfl, hxe⟩; have HX13 := Lib.hid (HX12.out.trans hxe); clear hxe)
    | (go_at_call 43; refine (HIo.out _ HX13.out).mono ?_; rintro e wf ⟨rfl, hxf⟩; have HX14 := Lib.hid (HX13.out.trans hxf); clear hxf))
    have b0 := (HBx.out _ HX14.out).cell 0
    have b1 := (HBx.out _ HX14.out).cell 1
    go_wp2
    go_ret
    exact ⟨by simp, HXA.out.trans HX14.out⟩
  · have e0 : firstL true ((true, m) :: ls.reverse) = some m := rfl
    have e1 : firstL false ((true, m) :: ls.reverse) = firstL false ls.reverse := rfl
    rw [e0] at HIo
    rw [e1] at HPo
    clear e0 e1
    generalize codeP n = cn at *
    generalize firstL false ls.reverse = x at *
    generalize firstL true ls.reverse = y at *
    generalize x.getD 0 = x0 at *
    generalize y.getD 0 = y0 at *
    generalize x.isSome = x1 at *
    generalize y.isSome = y1 at *
    go_upto_region 14 with (first
    | (go_at_call 18; ((with_reducible refine (HNo.out _ (Ext.refl _)).mono ?_); rintro e w9 ⟨rfl, hx9⟩; have HX9 := Lib.hid hx9; clear hx9))
    | (go_at_call 18; ((with_reducible refine (HNv.out _ HX9.out).mono ?_); rintro e wa ⟨rfl, hxa⟩; have HX10 := Lib.hid (HX9.out.trans hxa); clear hxa HX9))
    | (go_at_call 18; ((with_reducible refine (HNv.out _ HX10.out).mono ?_); rintro e wb ⟨rfl, hxb⟩; have HX11 := Lib.hid (HX10.out.trans hxb); clear hxb))
    | (go_at_call 38; refine (HCl.out _).mono ?_; rintro e wc ⟨rfl, rfl⟩)
    | (go_at_call 40; refine (HTv.out _ HX11.out).mono ?_; rintro e wd ⟨rfl, hxd⟩; have HX12 := Lib.hid (HX11.out.trans hxd); clear hxd))
    go_upto_region 16 with (first
    | (go_at_call 42; refine (HPo.out _ HX12.out).mono ?_; rintro e we ⟨rfl, hxe⟩; have HX13 := Lib.hid (HX12.out.trans hxe); clear hxe)
    | (go_at_call 43; refine (HIo.out _ HX13.out).mono ?_; rintro e wf ⟨rfl, hxf⟩; have HX14 := Lib.hid (HX13.out.trans hxf); clear hxf))
    have b0 := (HBx.out _ HX14.out).cell 0
    have b1 := (HBx.out _ HX14.out).cell 1
    go_wp2
    go_ret
    exact ⟨by simp, HXA.out.trans HX14.out⟩

end Go.Proofs.YtkcgbdoplhgbmaaDoor
