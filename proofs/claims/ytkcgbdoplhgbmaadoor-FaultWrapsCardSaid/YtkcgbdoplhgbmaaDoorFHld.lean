/- FaultHolds' walk. Condition: where the error values lie, and the library's two variables. -/
import Derived.Test.YtkcgbdoplhgbmaaDoorFTls
namespace Go.Proofs.YtkcgbdoplhgbmaaDoor
open Go Go.RowKit Go.Extern.Stop Go.Stop Go.Extern

theorem compF : (Tryd.prog.info? 100).map (·.comparable) = some true := by kernel_rfl
theorem sizeF : (Tryd.prog.info? 103).map (·.size) = some 2 := by kernel_rfl
theorem eql_flt (a : Addr) (w : World) : (binOp .eql 32 (.iface 100 (.pointer (some a))) (.iface 100 (.pointer (some a)))).run Tryd.prog w = .ok (.bool true) w := by
  obtain ⟨i, hi, hcmp⟩ := Option.map_eq_some_iff.1 compF
  obtain ⟨j, hj, hjs⟩ := Option.map_eq_some_iff.1 sizeF
  exact run_eql_iface_ptr_same (P := Tryd.prog) w a Tryd.underlying32 Tryd.underlying100 hi hcmp hj
theorem eql_errv (a : Addr) (w : World) : (binOp .eql 32 (errV a) (errV a)).run Tryd.prog w = .ok (.bool true) w := by
  obtain ⟨i, hi, hcmp⟩ := Option.map_eq_some_iff.1 isComp
  obtain ⟨j, hj, hjs⟩ := Option.map_eq_some_iff.1 isSize
  exact run_eql_iface_ptr_same (P := Tryd.prog) w a Tryd.underlying32 Tryd.underlying138 hi hcmp hj

theorem at_nil (k : Int) (w : World) : Calls Tryd.prog 47 #[.int .i64 k, .nilIface] w fun e w' => e = .returned .nilIface ∧ w = w' := by
  go_enter Tryd.func47, Tryd.ntmps47
  go_wp2
  go_ret
  exact ⟨rfl, rfl⟩
theorem in_nil (k : Int) (w : World) : Calls Tryd.prog 48 #[.int .i64 k, .nilIface] w fun e w' => e = .returned .nilIface ∧ w = w' := by
  go_enter Tryd.func48, Tryd.ntmps48
  go_wp2
  go_ret
  exact ⟨rfl, rfl⟩
theorem at_val (k : Int) (t : TypeId) (x : Value) (w : World) : Calls Tryd.prog 47 #[.int .i64 k, .iface t x] w fun e w' => ∃ g, e = .returned (.iface 100 (.pointer (some ⟨g, 0, none⟩))) ∧ Ext w w' ∧ Blk w' g 103 #[.int .i64 k, .iface t x] := by
  go_enter Tryd.func47, Tryd.ntmps47
  go_wp2
  go_ret
  exact ⟨w.heap.size, rfl, (Ext.refl w).alloc _, Blk.new w _ _⟩
theorem in_val (k : Int) (t : TypeId) (x : Value) (w : World) : Calls Tryd.prog 48 #[.int .i64 k, .iface t x] w fun e w' => ∃ g, e = .returned (.iface 94 (.pointer (some ⟨g, 0, none⟩))) ∧ Ext w w' ∧ Blk w' g 98 #[.int .i64 k, .iface t x] := by
  go_enter Tryd.func48, Tryd.ntmps48
  go_wp2
  go_ret
  exact ⟨w.heap.size, rfl, (Ext.refl w).alloc _, Blk.new w _ _⟩
theorem unwF_any (g : Nat) (k : Int) (v : Value) (w : World) (hb : Blk w g 103 #[.int .i64 k, v]) :
    Calls Tryd.prog 50 #[.iface 100 (.pointer (some ⟨g, 0, none⟩))] w fun e w' => e = .returned v ∧ w = w' := by
  have uE := hasUnF
  have mE := methUnF
  have HU := Lib.hid (unwrapF_any g k v w hb)
  clear hb
  go_enter Tryd.func50, Tryd.ntmps50
  go_wp2_with (go_at_call 173; refine HU.out.mono ?_; rintro e w5 ⟨rfl, rfl⟩)
  go_ret
  exact ⟨rfl, rfl⟩
theorem unwL_any (g : Nat) (k : Int) (v : Value) (w : World) (hb : Blk w g 98 #[.int .i64 k, v]) :
    Calls Tryd.prog 50 #[.iface 94 (.pointer (some ⟨g, 0, none⟩))] w fun e w' => e = .returned v ∧ w = w' := by
  have uE := hasUnL
  have mE := methUnL
  have HU := Lib.hid (unwrapL_any g k v w hb)
  clear hb
  go_enter Tryd.func50, Tryd.ntmps50
  go_wp2_with (go_at_call 171; refine HU.out.mono ?_; rintro e w5 ⟨rfl, rfl⟩)
  go_ret
  exact ⟨rfl, rfl⟩

set_option maxRecDepth 100000 in
set_option maxHeartbeats 4000000 in
theorem faultHolds_walk (n k m : Int) (A : Nat → Addr) (w : World) (hn : -9223372036854775808 ≤ n ∧ n ≤ 9223372036854775807) (hE : ErrsAt w A) (hL : LibV w) :
    Calls Tryd.prog 9 #[.int .i64 n, .int .i64 k, .int .i64 m] w fun e w' => e = .returned (.bool true) ∧ Ext w w' := by
  have HLv := Lib.hid (flives_any A w hE hL)
  have HE := Lib.hid hE
  have HL := Lib.hid hL
  have HN := Lib.hid hn
  clear hE hL hn
  go_enter Tryd.func9, Tryd.ntmps9
  go_upto_region 4 with (first
    | (go_at_call 35; refine HLv.out.mono ?_; rintro e w1 ⟨rfl, hx1⟩; have HX1 := Lib.hid hx1; clear hx1)
    | (go_at_call 37; refine (lsent_any A n w1 (HE.out.ext HX1.out) HN.out).mono ?_; rintro e w2 ⟨v, rfl, hx2, hf2⟩; have HX2 := Lib.hid (HX1.out.trans hx2); have HF2 := Lib.hid hf2; clear hx2 hf2))
  clear HX1 HLv HE HN
  by_cases h0 : n = 0
  · subst h0
    obtain rfl := HF2.out.nil
    have H1 := Lib.hid (fun W => at_nil k W)
    have H2 := Lib.hid (fun W => in_nil m W)
    clear HF2
    go_wp2_with (first
      | (go_at_call 47; refine (H1.out _).mono ?_; rintro e w3 ⟨rfl, rfl⟩)
      | (go_at_call 48; refine (H2.out _).mono ?_; rintro e w4 ⟨rfl, rfl⟩))
    go_ret
    exact ⟨rfl, HX2.out⟩
  obtain ⟨a, rfl, HA⟩ : ∃ a, v = errV a ∧ Hid ((∃ c t, w2.heap[a.block]? = some (.cells c t (0, 0))) ∧ (1 ≤ n → n ≤ 21 → a = A (n.toNat - 1)) ∧ (n < 0 ∨ 21 < n → ∀ i, i < 21 → A i ≠ a)) := by
    rcases HF2.out with ⟨h, _⟩ | ⟨_, a, h1, h2, h3, h4⟩
    · exact absurd h h0
    · exact ⟨a, h1, Lib.hid ⟨h2, h3, h4⟩⟩
  have HZ := Lib.hid h0
  have q1 := eql_flt
  have q2 := eql_errv a
  clear HF2 h0
  unfold errV at *
  go_upto_region 8 with (first
    | (go_at_call 47; refine (at_val k _ _ _).mono ?_; rintro e w3 ⟨g1, rfl, hx3, hb3⟩; have HX3 := Lib.hid hx3; have HB3 := Lib.hid hb3; clear hx3 hb3)
    | (go_at_call 48; refine (in_val m _ _ _).mono ?_; rintro e w4 ⟨g2, rfl, hx4, hb4⟩; have HX4 := Lib.hid hx4; have HB4 := Lib.hid hb4; clear hx4 hb4))
  have hf : FErr w4 A n [(true, m), (false, k)] (.iface 94 (.pointer (some ⟨g2, 0, none⟩))) := by
    obtain ⟨⟨c, t, h2⟩, h3, h4⟩ := HA.out
    exact .inr ⟨HZ.out, a, ⟨g2, .iface 100 (.pointer (some ⟨g1, 0, none⟩)), rfl, HB4.out, g1, errV a, rfl, HB3.out.ext HX4.out, rfl⟩, ⟨c, t, Blk.ext (t := t) (cs := c) h2 (HX3.out.trans HX4.out)⟩, h3, h4⟩
  have HF := Lib.hid hf
  have hV := HL.out.ext (HX2.out.trans (HX3.out.trans HX4.out))
  have HP := Lib.hid ((show (plF false n [(true, m), (false, k)]).getD (-1) = k by rw [show plF false n [(true, m), (false, k)] = some k from if_neg HZ.out]; rfl) ▸ numPlace_any A n _ _ w4 hf hV.et)
  have HI := Lib.hid (fun W (hx : Ext w4 W) => (show (plF true n [(true, m), (false, k)]).getD (-1) = m by rw [show plF true n [(true, m), (false, k)] = some m from if_neg HZ.out]; rfl) ▸ numIndex_any A n _ _ W (HF.out.ext hx) (hV.ext hx).et)
  have HU2 := Lib.hid (fun W (hx : Ext w4 W) => unwL_any g2 m _ W (HB4.out.ext hx))
  have HU1 := Lib.hid (fun W (hx : Ext w4 W) => unwF_any g1 k _ W (HB3.out.ext (HX4.out.trans hx)))
  have HX := Lib.hid (HX2.out.trans (HX3.out.trans HX4.out))
  clear hf hV HF HA HZ HX2 HX3 HX4 HB3 HB4 HL
  go_wp2_with (first
    | (go_at_call 49; refine HP.out.mono ?_; rintro e w5 ⟨rfl, hx5⟩; have HX5 := Lib.hid hx5; clear hx5)
    | (go_at_call 32; refine (HI.out _ HX5.out).mono ?_; rintro e w6 ⟨rfl, hx6⟩; have HX6 := Lib.hid (HX5.out.trans hx6); clear hx6)
    | (go_at_call 50; ((with_reducible refine (HU2.out _ HX6.out).mono ?_); rintro e w7 ⟨rfl, rfl⟩))
    | (go_at_call 50; ((with_reducible refine (HU1.out _ HX6.out).mono ?_); rintro e w8 ⟨rfl, rfl⟩)))
  go_ret
  exact ⟨rfl, HX.out.trans HX6.out⟩

end Go.Proofs.YtkcgbdoplhgbmaaDoor
