/- errors.As of an error in links, at a target of *api.Fault. Condition: how the error lies in memory; the package errors' own variable. Printed by genfas.py. -/
import Derived.Test.YtkcgbdoplhgbmaaDoorFasP
namespace Go.Proofs.YtkcgbdoplhgbmaaDoor
open Go Go.RowKit Go.Extern.Stop Go.Stop Go.Extern

theorem asValueOfF (t : Addr) (w : World) : (ReflectliteValue.unpack (.iface 101 (.pointer (some t)))).run Tryd.prog w
    = .ok (.agg #[.pointer (some ⟨28, 101, none⟩), .pointer (some ⟨w.heap.size, 0, none⟩), .int .u64 150]) (w.alloc (.cells #[.pointer (some t)] 101)) := by kernel_rfl
theorem asTypeF (a : Addr) (w : World) : (ReflectliteValue.methodAny (ReflectliteValue.valueError "reflectlite.Value.Type" 0) (fun t _ _ _ => ReflectliteType.toType t) #[.agg #[.pointer (some ⟨28, 101, none⟩), .pointer (some a), .int .u64 150]]).run Tryd.prog w
    = .ok (.iface 148 (.agg #[.pointer (some ⟨28, 101, none⟩)])) w := by kernel_rfl
theorem asKind2F (w : World) : ((ReflectliteType.abiMethod fun t => (fun a : Nat => Value.int IntKind.u8 (a : Int)) <$> Rtype.kind t) #[.pointer (some ⟨28, 101, none⟩)]).run Tryd.prog w = .ok (.int .u8 22) w := by kernel_rfl
theorem asKind1F (w : World) : ((ReflectliteType.abiMethod fun t => (fun a : Nat => Value.int IntKind.u8 (a : Int)) <$> Rtype.kind t) #[.pointer (some ⟨28, 100, none⟩)]).run Tryd.prog w = .ok (.int .u8 22) w := by kernel_rfl
theorem asParts2F (a : Addr) (w : World) : (ReflectliteValue.parts (.agg #[.pointer (some ⟨28, 101, none⟩), .pointer (some a), .int .u64 150])).run Tryd.prog w = .ok (some (101, a, 150)) w := by kernel_rfl
theorem asIsNilF (a p : Addr) (W : World) (ha : W.cell? a = some (.pointer (some p))) :
    (ReflectliteValue.method (ReflectliteValue.valueError "reflectlite.Value.IsNil" 0) ReflectliteValue.isNil #[.agg #[.pointer (some ⟨28, 101, none⟩), .pointer (some a), .int .u64 150]]).run Tryd.prog W = .ok (.bool false) W := by
  rw [asRlm]
  simp only [Sem.run_bind, asParts2F, Result.andThen]
  simp [ReflectliteValue.isNil, loadVar, isAgg, underlying, Tryd.underlying101, ha, Result.andThen]
theorem asElemF (w : World) : (ReflectliteType.method ReflectliteType.elem #[.agg #[.pointer (some ⟨28, 101, none⟩)]]).run Tryd.prog w = .ok (.iface 148 (.agg #[.pointer (some ⟨28, 100, none⟩)])) w := by kernel_rfl
theorem asImplF (w : World) : (ReflectliteType.relation "Implements" ReflectliteType.implements_ #[.agg #[.pointer (some ⟨28, 100, none⟩)], .iface 148 (.agg #[.pointer (some ⟨28, 32, none⟩)])]).run Tryd.prog w = .ok (.bool true) w := by kernel_rfl
theorem asTypeOfF (v : Value) (w : World) : (ReflectliteType.typeOf #[.iface 100 v]).run Tryd.prog w = .ok (.iface 148 (.agg #[.pointer (some ⟨28, 100, none⟩)])) w := by kernel_rfl
theorem asHitF (w : World) : (ReflectliteType.relation "AssignableTo" ReflectliteType.assignableTo #[.agg #[.pointer (some ⟨28, 100, none⟩)], .iface 148 (.agg #[.pointer (some ⟨28, 100, none⟩)])]).run Tryd.prog w = .ok (.bool true) w := by kernel_rfl
theorem asMissF (w : World) : (ReflectliteType.relation "AssignableTo" ReflectliteType.assignableTo #[.agg #[.pointer (some ⟨28, 94, none⟩)], .iface 148 (.agg #[.pointer (some ⟨28, 100, none⟩)])]).run Tryd.prog w = .ok (.bool false) w := by kernel_rfl
theorem asBaseF (w : World) : (ReflectliteType.relation "AssignableTo" ReflectliteType.assignableTo #[.agg #[.pointer (some ⟨28, 138, none⟩)], .iface 148 (.agg #[.pointer (some ⟨28, 100, none⟩)])]).run Tryd.prog w = .ok (.bool false) w := by kernel_rfl
theorem asTypeOfOF (v : Value) (w : World) : (ReflectliteType.typeOf #[.iface 94 v]).run Tryd.prog w = .ok (.iface 148 (.agg #[.pointer (some ⟨28, 94, none⟩)])) w := by kernel_rfl
theorem asNoAsOF (v : Value) (xT : TypeId) (w : World) : (Instr.typeAssert (.iface 94 v) xT 158 true).run Tryd.prog w = .ok (.tuple #[.nilIface, .bool false]) w := run_typeAssert_lacksB Tryd.underlying158 (by kernel_rfl) (by kernel_rfl) v xT w
theorem asValueOf1F (e : Addr) (w : World) : (ReflectliteValue.unpack (.iface 100 (.pointer (some e)))).run Tryd.prog w
    = .ok (.agg #[.pointer (some ⟨28, 100, none⟩), .pointer (some ⟨w.heap.size, 0, none⟩), .int .u64 150]) (w.alloc (.cells #[.pointer (some e)] 100)) := by kernel_rfl
theorem asElemOfF (w : World) : (Rtype.elem? 101).run Tryd.prog w = .ok (some 100) w := by kernel_rfl
theorem asMkF (p : Addr) (w : World) : (ReflectliteValue.mk 100 p ReflectliteValue.flagAddr).run Tryd.prog w = .ok (.agg #[.pointer (some ⟨28, 100, none⟩), .pointer (some p), .int .u64 406]) w := by kernel_rfl
theorem asElemVF (a p : Addr) (W : World) (ha : W.cell? a = some (.pointer (some p))) :
    (ReflectliteValue.method (ReflectliteValue.valueError "reflectlite.Value.Elem" 0) ReflectliteValue.elem #[.agg #[.pointer (some ⟨28, 101, none⟩), .pointer (some a), .int .u64 150]]).run Tryd.prog W
      = .ok (.agg #[.pointer (some ⟨28, 100, none⟩), .pointer (some p), .int .u64 406]) W := by
  rw [asRlm]
  simp only [Sem.run_bind, asParts2F, Result.andThen]
  simp [ReflectliteValue.elem, loadVar, isAgg, underlying, Tryd.underlying101, ha, Result.andThen, asElemOfF, asMkF]
theorem asParts1aF (a : Addr) (w : World) : (ReflectliteValue.parts (.agg #[.pointer (some ⟨28, 100, none⟩), .pointer (some a), .int .u64 406])).run Tryd.prog w = .ok (some (100, a, 406)) w := by kernel_rfl
theorem asParts1F (a : Addr) (w : World) : (ReflectliteValue.parts (.agg #[.pointer (some ⟨28, 100, none⟩), .pointer (some a), .int .u64 150])).run Tryd.prog w = .ok (some (100, a, 150)) w := by kernel_rfl
theorem asDirectF (w : World) : (Rtype.directlyAssignable 100 100).run Tryd.prog w = .ok true w := by kernel_rfl
theorem asSetF (ta b e : Addr) (old : Value) (W : World) (hb : W.cell? b = some (.pointer (some e))) (ht : W.cell? ta = some old) (hf : W.frozen? ta = false) :
    (ReflectliteValue.set #[.agg #[.pointer (some ⟨28, 100, none⟩), .pointer (some ta), .int .u64 406], .agg #[.pointer (some ⟨28, 100, none⟩), .pointer (some b), .int .u64 150]]).run Tryd.prog W
      = .ok (.tuple #[]) (W.setCell ta (.pointer (some e))) := by
  rw [asRls]
  simp only [Sem.run_bind, asParts1aF, asParts1F, Result.andThen]
  simp [ReflectliteValue.flagAddr, loadVar, isAgg, underlying, Tryd.underlying100, hb, Result.andThen, asDirectF, storeVar, Value.cells, storeCells, Addr.add]
  rw [run_store Tryd.prog W ta _ _ (by rfl)]
  simp [ht, hf]

set_option maxRecDepth 100000 in
set_option maxHeartbeats 2000000 in
/-- errors.as: the outermost link of the kind. -/
theorem as_loopF (l : List (Bool × Int)) (a : Addr) (v : Value) (w : World) (hv : Chn w l (errV a) v) (T p : Nat) (old : Value) (hT : Blk w T 100 #[old]) (hp : Blk w p 101 #[.pointer (some ⟨T, 0, none⟩)]) :
    Calls Tryd.prog 98 #[v, .iface 101 (.pointer (some ⟨T, 0, none⟩)), .agg #[.pointer (some ⟨28, 101, none⟩), .pointer (some ⟨p, 0, none⟩), .int .u64 150], .iface 148 (.agg #[.pointer (some ⟨28, 100, none⟩)])] w fun e w' => e = .returned (.bool (firstL false l).isSome) ∧ AsGot false T w w' (firstL false l) := by
  have h10 := @run_callFunc_extern Tryd.prog 88 _ ReflectliteType.typeOf Tryd.func88 (by kernel_rfl) (by kernel_rfl) (by kernel_rfl) (by kernel_rfl)
  have h35 := @run_callFunc_extern Tryd.prog 180 _ (ReflectliteType.relation "AssignableTo" ReflectliteType.assignableTo) Tryd.func180 (by kernel_rfl) (by kernel_rfl) (by kernel_rfl) (by kernel_rfl)
  have h11 := @run_callFunc_extern Tryd.prog 115 _ (ReflectliteValue.method (ReflectliteValue.valueError "reflectlite.Value.Elem" 0) ReflectliteValue.elem) Tryd.func115 (by kernel_rfl) (by kernel_rfl) (by kernel_rfl) (by kernel_rfl)
  have h12 := @run_callFunc_extern Tryd.prog 116 _ ReflectliteValue.set Tryd.func116 (by kernel_rfl) (by kernel_rfl) (by kernel_rfl) (by kernel_rfl)
  have h6 := @run_callFunc_extern Tryd.prog 95 _ (fun args => ReflectliteValue.unpack (args.getD 0 (.tuple #[]))) Tryd.func95 (by kernel_rfl) (by kernel_rfl) (by kernel_rfl) (by kernel_rfl)
  have mA := asMethodAssignableTo
  have HV := Lib.hid hv
  have HT := Lib.hid hT
  have HP := Lib.hid hp
  clear hv hT hp
  unfold errV at *
  go_enter Tryd.func98, Tryd.ntmps98
  go_upto_region 1 with fail
  obtain ⟨w1, hw1⟩ : ∃ w1, w1 = w.alloc (.cells #[.pointer (some ⟨28, 101, none⟩), .pointer (some ⟨p, 0, none⟩), .int .u64 150] 131) := ⟨_, rfl⟩
  have X1 : Ext w w1 := hw1 ▸ (Ext.refl w).alloc _
  have B1 : Blk w1 w.heap.size 131 #[.pointer (some ⟨28, 101, none⟩), .pointer (some ⟨p, 0, none⟩), .int .u64 150] := hw1 ▸ Blk.new w _ _
  rw [← hw1]
  have HVx := Lib.hid (HV.out.ext X1)
  have HTx := Lib.hid (HT.out.ext X1)
  have HPx := Lib.hid (HP.out.ext X1)
  have HX := Lib.hid X1
  have HB := Lib.hid B1
  have hTlt := Lib.hid HT.out.lt
  generalize w.heap.size = N at *
  clear HV HT HP X1 B1 hw1
  go_loopg [0] l.length (fun k v' wr => ∃ l', l'.length = k ∧ Hid (Chn w1 l' (.iface 138 (.pointer (some a))) v') ∧ Hid (firstL false l' = firstL false l) ∧ w1 = wr)
  case atStart => exact ⟨l, rfl, HVx, Lib.hid rfl, rfl⟩
  case round =>
    obtain ⟨l', hl, HC, HF, rfl⟩ := hrel
    clear HVx
    cases l' with
    | nil =>
      obtain rfl := HC.out
      have tE := isTypeOf
      have aE := asBaseF
      have nE := asNoAsE
      have uE := noUnwrapE
      have vE := noUnwrapsE
      clear HC hl HTx HPx HB
      go_wp2
      go_ret
      have hf : firstL false l = none := HF.out.symm.trans rfl
      rw [hf]
      exact ⟨rfl, HX.out⟩
    | cons x r =>
      obtain ⟨i, n⟩ := x
      obtain ⟨g, v', rfl, hb, hc⟩ := HC.out
      obtain ⟨tv, xv, rfl⟩ := hc.isIf ⟨_, _, rfl⟩
      have HC2 := Lib.hid hc
      have hgk : r.length < gk := by rw [← hl]; simp
      clear HC hc hl
      by_cases hi : i = false
      · subst hi
        have hf : firstL false l = some n := HF.out.symm.trans (by simp [firstL])
        have hne : g ≠ T := Blk.ne hb HTx.out (by simp only [lkS, Bool.false_eq_true, if_false]; decide)
        have tE := asTypeOfF
        have aE := asHitF
        have vE := asValueOf1F ⟨g, 0, none⟩ w1
        have eE := asElemVF ⟨p, 0, none⟩ ⟨T, 0, none⟩ w1 (HPx.out.cell 0)
        have sE := asSetF ⟨T, 0, none⟩ ⟨w1.heap.size, 0, none⟩ ⟨g, 0, none⟩ old (w1.alloc (.cells #[.pointer (some ⟨g, 0, none⟩)] 100)) ((Blk.new w1 _ _).cell 0) ((HTx.out.alloc _).cell 0) ((HTx.out.alloc _).frozen 0)
        have b0 := HB.out.cell 0
        have b1 := HB.out.cell 1
        have b2 := HB.out.cell 2
        have HG := Lib.hid hb
        have HE := Lib.hid hne
        have HF2 := Lib.hid hf
        clear HF hb hne hf HC2
        simp only [lkT, Bool.false_eq_true, if_false] at *
        go_wp2
        go_ret
        rw [HF2.out]
        have hk : Keeps (fun k => k = T) w (w1.alloc (.cells #[.pointer (some ⟨g, 0, none⟩)] 100)) := (Keeps.of_ext HX.out).alloc _
        refine ⟨rfl, hk.setCell (p := ⟨T, 0, none⟩) (Or.inr rfl) _, g, .iface tv xv, ?_, (HG.out.alloc _).far HE.out _⟩
        simp only [lkT, Bool.false_eq_true, if_false]
        exact (HTx.out.alloc _).set 0 _
      · obtain rfl : i = true := by cases i <;> simp_all
        have hf : firstL false r = firstL false l := Eq.trans (by simp [firstL]) HF.out
        have HF2 := Lib.hid hf
        have tE := asTypeOfOF
        have aE := asMissF
        have nE := asNoAsOF
        have uE := hasUnL
        have mE := methUnL
        have HU := Lib.hid (unwrapL_any g n (.iface tv xv) w1 hb)
        simp only [lkT, if_true] at *
        clear hb hf HF hi HB HTx HPx
        go_wp2_with (go_at_call 171; refine HU.out.mono ?_; rintro e w5 ⟨rfl, rfl⟩)
        go_roundg r.length
        case measure => exact hgk
        case rel => exact ⟨r, rfl, HC2, HF2, rfl⟩

set_option maxRecDepth 100000 in
set_option maxHeartbeats 2000000 in
/-- errors.As at this target. -/
theorem as_chnF (l : List (Bool × Int)) (a : Addr) (v : Value) (w : World) (hv : Chn w l (errV a) v) (T : Nat) (old : Value) (hT : Blk w T 100 #[old]) (hg : w.cell? ⟨21, 0, none⟩ = some errTV) :
    Calls Tryd.prog 72 #[v, .iface 101 (.pointer (some ⟨T, 0, none⟩))] w fun e w' => e = .returned (.bool (firstL false l).isSome) ∧ AsGot false T w w' (firstL false l) := by
  have h6 := @run_callFunc_extern Tryd.prog 95 _ (fun args => ReflectliteValue.unpack (args.getD 0 (.tuple #[]))) Tryd.func95 (by kernel_rfl) (by kernel_rfl) (by kernel_rfl) (by kernel_rfl)
  have h7 := @run_callFunc_extern Tryd.prog 96 _ (ReflectliteValue.methodAny (ReflectliteValue.valueError "reflectlite.Value.Type" 0) (fun t _ _ _ => ReflectliteType.toType t)) Tryd.func96 (by kernel_rfl) (by kernel_rfl) (by kernel_rfl) (by kernel_rfl)
  have h8 := @run_callFunc_extern Tryd.prog 97 _ (ReflectliteValue.method (ReflectliteValue.valueError "reflectlite.Value.IsNil" 0) ReflectliteValue.isNil) Tryd.func97 (by kernel_rfl) (by kernel_rfl) (by kernel_rfl) (by kernel_rfl)
  have h27 := @run_callFunc_extern Tryd.prog 167 _ (ReflectliteType.abiMethod fun t => do pure (.int .u8 (← Rtype.kind t))) Tryd.func167 (by kernel_rfl) (by kernel_rfl) (by kernel_rfl) (by kernel_rfl)
  have h37 := @run_callFunc_extern Tryd.prog 182 _ (ReflectliteType.method ReflectliteType.elem) Tryd.func182 (by kernel_rfl) (by kernel_rfl) (by kernel_rfl) (by kernel_rfl)
  have h38 := @run_callFunc_extern Tryd.prog 183 _ (ReflectliteType.relation "Implements" ReflectliteType.implements_) Tryd.func183 (by kernel_rfl) (by kernel_rfl) (by kernel_rfl) (by kernel_rfl)
  have f6 := asValueOfF ⟨T, 0, none⟩ w
  have f7 := asTypeF
  have mK := asMethodKind
  have mE := asMethodElem
  have mI := asMethodImplements
  have k2 := asKind2F
  have k1 := asKind1F
  have e2 := asElemF
  have i2 := asImplF
  have hlt : 21 < w.heap.size := World.block_lt_of_cell? w _ hg
  have n8 := asIsNilF ⟨w.heap.size, 0, none⟩ ⟨T, 0, none⟩ ((w.alloc (.cells #[.pointer (some ⟨T, 0, none⟩)] 101)).alloc (.cells #[.pointer (some ⟨28, 101, none⟩), .pointer (some ⟨w.heap.size, 0, none⟩), .int .u64 150] 131)) (((Blk.new w _ _).alloc _).cell 0)
  have hg2 : ((w.alloc (.cells #[.pointer (some ⟨T, 0, none⟩)] 101)).alloc (.cells #[.pointer (some ⟨28, 101, none⟩), .pointer (some ⟨w.heap.size, 0, none⟩), .int .u64 150] 131)).cell? ⟨21, 0, none⟩ = some errTV := (((Ext.refl w).alloc _).alloc _).cell hg
  obtain ⟨tv, xv, rfl⟩ := hv.isIf ⟨_, _, rfl⟩
  have HL := Lib.hid (fun W2 (hx : Ext w W2) hp => as_loopF l a (.iface tv xv) W2 (hv.ext hx) T w.heap.size old (hT.ext hx) hp)
  have HT := Lib.hid hT.lt
  have HN := Lib.hid hlt
  unfold errTV at hg2
  clear hv hT hg hlt
  go_enter Tryd.func72, Tryd.ntmps72
  go_wp2_with (go_at_call 98; refine (HL.out _ (((Ext.refl w).alloc _).alloc _) ((Blk.new w _ _).alloc _)).mono ?_; rintro e w5 ⟨rfl, HGot⟩)
  go_ret
  exact ⟨rfl, HGot.of (((Ext.refl w).alloc _).alloc _) HT.out⟩

end Go.Proofs.YtkcgbdoplhgbmaaDoor
