/- The law ClassAlgebra as a walk. No condition but where the error values lie. -/
import Derived.Test.YteahmkhmkalimaaDoorClassF
import Derived.Test.YteahmkhmkalimaaDoorClassP
import Derived.Deep.RegionHeld3
namespace Go.Proofs.YteahmkhmkalimaaDoor
open Go.RowKit

theorem meet2 (p q : Nat → Bool) (w : World) (t : TypeId) (c : Nat) :
    Calls Tryd.prog 35 #[.slice (some ⟨w.heap.size, 0, none⟩) 2 c] (w.alloc (.cells #[.int .u64 (wd p 0 : Int), .int .u64 (wd p 1 : Int), .int .u64 (wd p 2 : Int), .int .u64 (wd p 3 : Int), .int .u64 (wd q 0 : Int), .int .u64 (wd q 1 : Int), .int .u64 (wd q 2 : Int), .int .u64 (wd q 3 : Int)] t)) fun r w' => r = .returned (.agg #[.int .u64 (wd (fun b => p b && q b) 0 : Int), .int .u64 (wd (fun b => p b && q b) 1 : Int), .int .u64 (wd (fun b => p b && q b) 2 : Int), .int .u64 (wd (fun b => p b && q b) 3 : Int)]) ∧ Ext w w' :=
  (meet_any [p, q] _ _ (rdS2 w t p q c) (by simp)).mono fun e w' ⟨h1, h2⟩ => ⟨by rw [h1, show meetL [p, q] = fun b => p b && q b from by funext b; simp [meetL]]; rfl, ((Ext.refl w).alloc _).trans h2⟩
theorem fold_idem (p : Nat → Bool) : foldB (foldB p) = foldB p := by
  funext x
  unfold foldB
  rw [otherB_inv]
  cases p x <;> cases p (otherB x) <;> rfl
theorem meet_fold (p : Nat → Bool) : (fun b => p b && foldB p b) = p := by
  funext x
  unfold foldB
  cases p x <;> rfl
theorem fold_join (p q : Nat → Bool) : foldB (fun b => p b || q b) = fun b => foldB p b || foldB q b := by
  funext x
  unfold foldB
  simp only
  cases p x <;> cases p (otherB x) <;> cases q x <;> cases q (otherB x) <;> rfl
theorem other_word : ∀ x : Fin 256, wordB (otherB x.val) = wordB x.val := by decide +kernel
theorem fold_one (b : Nat) : foldB (fun x => x == b) (otherB b) = true := by
  unfold foldB
  rw [otherB_inv]
  simp

/-- A slice's two sets side by side, as a region's cells. -/
def SetAt (w : World) (g : Nat) (p : Nat → Bool) : Prop :=
  w.cell? ⟨g, 0, none⟩ = some (.int .u64 (wd p 0 : Int)) ∧ w.cell? ⟨g, 1, none⟩ = some (.int .u64 (wd p 1 : Int)) ∧ w.cell? ⟨g, 2, none⟩ = some (.int .u64 (wd p 2 : Int)) ∧ w.cell? ⟨g, 3, none⟩ = some (.int .u64 (wd p 3 : Int))

set_option maxRecDepth 100000 in
set_option maxHeartbeats 16000000 in
theorem algebra_core (pa pb : Nat → Bool) (b : Nat) (v : Bool) (A : Nat → Addr) (w : World) (hb : b < 256) (hv : alphaB b = v) (hA : ErrsAt w A) :
    Calls Tryd.prog 9 #[.agg #[.int .u64 (wd pa 0 : Int), .int .u64 (wd pa 1 : Int), .int .u64 (wd pa 2 : Int), .int .u64 (wd pa 3 : Int)], .agg #[.int .u64 (wd pb 0 : Int), .int .u64 (wd pb 1 : Int), .int .u64 (wd pb 2 : Int), .int .u64 (wd pb 3 : Int)], .int .u8 (b : Int)] w fun r w' => r = .returned (.bool true) ∧ Ext w w' := by
  have HL := Lib.hid (fun W h => classLives_any A W h)
  have HA := Lib.hid hA
  have H1 := Lib.hid (fun W => fold_a pa W)
  have H2 := fun W => fold_a (foldB pa) W
  rw [fold_idem] at H2
  replace H2 := Lib.hid H2
  have H3 := fun W t c => meet2 pa (foldB pa) W t c
  rw [meet_fold] at H3
  replace H3 := Lib.hid H3
  have H4 := Lib.hid (fun W t c => join2 pa pb W t c)
  have H5 := fun W => fold_a (fun b => pa b || pb b) W
  rw [fold_join] at H5
  replace H5 := Lib.hid H5
  have H6 := Lib.hid (fun W => fold_a pb W)
  have H7 := Lib.hid (fun W t c => join2 (foldB pa) (foldB pb) W t c)
  have HO := Lib.hid (fun W => other_any b W hb)
  have HP := fun W => other_any (otherB b) W (otherB_lt b hb)
  rw [otherB_inv] at HP
  replace HP := Lib.hid HP
  have HN := Lib.hid (fun W => namedA_alpha W)
  have HH := fun W => has_a alphaB b W hb
  rw [hv] at HH
  replace HH := Lib.hid HH
  have HF := Lib.hid (fun W t c => of1 b W t c hb)
  have HG := Lib.hid (fun W => fold_a (fun x => x == b) W)
  have HK := fun W => has_a (foldB (fun x => x == b)) (otherB b) W (otherB_lt b hb)
  rw [fold_one] at HK
  replace HK := Lib.hid HK
  have HW := Lib.hid (fun W => word_any b W hb)
  have HV := fun W => word_any (otherB b) W (otherB_lt b hb)
  rw [other_word ⟨b, hb⟩] at HV
  replace HV := Lib.hid HV
  have ho := other_moves ⟨b, hb⟩
  simp only at ho
  have eo : ((b : Int) != (otherB b : Int)) = v := by
    have : ((b : Int) == (otherB b : Int)) = (otherB b == b) := by rw [Bool.eq_iff_iff, beq_iff_eq, beq_iff_eq]; omega
    rw [bne, this, ho, hv]; simp
  have heq := neq_same
  clear hA ho hv
  generalize (fun b => foldB pa b || foldB pb b) = qj at *
  generalize (fun b => pa b || pb b) = pj at *
  generalize foldB pa = fa at *
  generalize foldB pb = fb at *
  generalize foldB (fun x => x == b) = f1 at *
  generalize wordB b = wb at *
  generalize otherB b = ob at *
  have A0 : Blk ((w.alloc (.cells #[.int .u64 (wd pa 0 : Int), .int .u64 (wd pa 1 : Int), .int .u64 (wd pa 2 : Int), .int .u64 (wd pa 3 : Int)] 24)).alloc (.cells #[.int .u64 (wd pb 0 : Int), .int .u64 (wd pb 1 : Int), .int .u64 (wd pb 2 : Int), .int .u64 (wd pb 3 : Int)] 24)) w.heap.size 24 (setC pa) := (Blk.new w 24 (setC pa)).alloc _
  have B0 : Blk ((w.alloc (.cells #[.int .u64 (wd pa 0 : Int), .int .u64 (wd pa 1 : Int), .int .u64 (wd pa 2 : Int), .int .u64 (wd pa 3 : Int)] 24)).alloc (.cells #[.int .u64 (wd pb 0 : Int), .int .u64 (wd pb 1 : Int), .int .u64 (wd pb 2 : Int), .int .u64 (wd pb 3 : Int)] 24)) (w.heap.size + 1) 24 (setC pb) := heap_alloc2_new w _ _
  have X0 : Ext w ((w.alloc (.cells #[.int .u64 (wd pa 0 : Int), .int .u64 (wd pa 1 : Int), .int .u64 (wd pa 2 : Int), .int .u64 (wd pa 3 : Int)] 24)).alloc (.cells #[.int .u64 (wd pb 0 : Int), .int .u64 (wd pb 1 : Int), .int .u64 (wd pb 2 : Int), .int .u64 (wd pb 3 : Int)] 24)) := ((Ext.refl w).alloc _).alloc _
  go_enter Tryd.func9, Tryd.ntmps9
  go_upto_region 4 with (first
    | (go_at_call 22; refine (HL.out _ (HA.out.ext X0)).mono ?_; rintro e w1 ⟨rfl, hx1⟩; obtain ⟨a0, a1, a2, a3, _, _, _, _⟩ := setC_cells (A0.ext hx1))
    | (go_at_call 31; ((with_reducible refine (H1.out _).mono ?_); rintro e w2 ⟨rfl, hx2⟩)))
  have hA := ((A0.ext hx1).ext hx2).alloc (.cells #[.int .u64 (wd fa 0 : Int), .int .u64 (wd fa 1 : Int), .int .u64 (wd fa 2 : Int), .int .u64 (wd fa 3 : Int)] 24)
  have hBb := ((B0.ext hx1).ext hx2).alloc (.cells #[.int .u64 (wd fa 0 : Int), .int .u64 (wd fa 1 : Int), .int .u64 (wd fa 2 : Int), .int .u64 (wd fa 3 : Int)] 24)
  have hFf := Blk.new w2 24 (setC fa)
  change Blk (w2.alloc (.cells #[.int .u64 (wd fa 0 : Int), .int .u64 (wd fa 1 : Int), .int .u64 (wd fa 2 : Int), .int .u64 (wd fa 3 : Int)] 24)) _ _ _ at hFf
  have hx := (((X0.trans hx1).trans hx2).alloc (.cells #[.int .u64 (wd fa 0 : Int), .int .u64 (wd fa 1 : Int), .int .u64 (wd fa 2 : Int), .int .u64 (wd fa 3 : Int)] 24))
  clear A0 B0 X0 hx1 hx2 a0 a1 a2 a3
  generalize w2.heap.size = gf at *
  generalize w2.alloc (.cells #[.int .u64 (wd fa 0 : Int), .int .u64 (wd fa 1 : Int), .int .u64 (wd fa 2 : Int), .int .u64 (wd fa 3 : Int)] 24) = w3 at *
  have KS : ∀ w', Ext w3 w' → SetAt w' w.heap.size pa ∧ SetAt w' (w.heap.size + 1) pb ∧ SetAt w' gf fa := fun w' hx' => ⟨setC_keep hA hx', setC_keep hBb hx', setC_keep hFf hx'⟩
  unfold SetAt at KS
  replace KS := Lib.hid KS
  clear hA hBb hFf
  go_region_held3 (fun w' => (w'.cell? ⟨w.heap.size, 0, none⟩ = some (.int .u64 (wd pa 0 : Int)) ∧ w'.cell? ⟨w.heap.size, 1, none⟩ = some (.int .u64 (wd pa 1 : Int)) ∧ w'.cell? ⟨w.heap.size, 2, none⟩ = some (.int .u64 (wd pa 2 : Int)) ∧ w'.cell? ⟨w.heap.size, 3, none⟩ = some (.int .u64 (wd pa 3 : Int))) ∧
      (w'.cell? ⟨w.heap.size + 1, 0, none⟩ = some (.int .u64 (wd pb 0 : Int)) ∧ w'.cell? ⟨w.heap.size + 1, 1, none⟩ = some (.int .u64 (wd pb 1 : Int)) ∧ w'.cell? ⟨w.heap.size + 1, 2, none⟩ = some (.int .u64 (wd pb 2 : Int)) ∧ w'.cell? ⟨w.heap.size + 1, 3, none⟩ = some (.int .u64 (wd pb 3 : Int))) ∧
      (w'.cell? ⟨gf, 0, none⟩ = some (.int .u64 (wd fa 0 : Int)) ∧ w'.cell? ⟨gf, 1, none⟩ = some (.int .u64 (wd fa 1 : Int)) ∧ w'.cell? ⟨gf, 2, none⟩ = some (.int .u64 (wd fa 2 : Int)) ∧ w'.cell? ⟨gf, 3, none⟩ = some (.int .u64 (wd fa 3 : Int))))
    ((exact KS.out _ (by first | exact (Ext.refl _).drew | assumption | exact Ext.alloc (by assumption) _)))
    (first
      | (go_at_call 31; ((with_reducible refine (H2.out _).mono ?_); rintro e w4 ⟨rfl, hx4⟩; have hX4 : Ext w3 w4 := (Ext.refl w3).drew.trans hx4))
      | (go_at_call 35; ((with_reducible refine (H3.out _ _ _).mono ?_); rintro e w5 ⟨rfl, hx5⟩; have hX5 : Ext w3 w5 := hX4.trans hx5))
      | (go_at_call 36; ((with_reducible refine (H4.out _ _ _).mono ?_); rintro e w6 ⟨rfl, hx6⟩; have hX6 : Ext w3 w6 := hX5.trans hx6))
      | (go_at_call 31; ((with_reducible refine (H5.out _).mono ?_); rintro e w7 ⟨rfl, hx7⟩; have hX7 : Ext w3 w7 := hX6.trans hx7))
      | (go_at_call 31; ((with_reducible refine (H6.out _).mono ?_); rintro e w8 ⟨rfl, hx8⟩; have hX8 : Ext w3 w8 := hX7.trans hx8))
      | (go_at_call 36; ((with_reducible refine (H7.out _ _ _).mono ?_); rintro e w9 ⟨rfl, hx9⟩; have hX9 : Ext w3 w9 := hX8.trans hx9)))
  all_goals
    have hxx := hx.trans hX9
    clear hX4 hX5 hX6 hX7 hX8 hX9 hx hx4 hx5 hx6 hx7 hx8 hx9 KS H1 H2 H3 H4 H5 H6 H7 HL HA heq
    go_wp2_with (first
      | (go_at_call 29; ((with_reducible refine (HO.out _).mono ?_); rintro e w10 ⟨rfl, hw10⟩; replace hxx : Ext w w10 := hw10 ▸ hxx; clear hw10))
      | (go_at_call 23; ((with_reducible refine (HN.out _).mono ?_); rintro e w11 ⟨rfl, hx11⟩; have hy11 := hxx.trans hx11))
      | (go_at_call 29; ((with_reducible refine (HP.out _).mono ?_); rintro e w12 ⟨rfl, hw12⟩; have hy12 : Ext w w12 := hw12 ▸ (hy11.alloc _); have hBl : Blk w12 w11.heap.size 24 (setC alphaB) := hw12 ▸ Blk.new w11 24 (setC alphaB); obtain ⟨c0, c1, c2, c3, _, _, _, _⟩ := setC_cells hBl))
      | (go_at_call 17; ((with_reducible refine (HH.out _).mono ?_); rintro e w13 ⟨rfl, hx13⟩; have hy13 := hy12.trans hx13))
      | (go_at_call 11; ((with_reducible refine (HF.out _ _ _).mono ?_); rintro e w14 ⟨rfl, hx14⟩; have hy14 := hy13.trans hx14))
      | (go_at_call 31; ((with_reducible refine (HG.out _).mono ?_); rintro e w15 ⟨rfl, hx15⟩; have hy15 := hy14.trans hx15))
      | (go_at_call 17; ((with_reducible refine (HK.out _).mono ?_); rintro e w16 ⟨rfl, hx16⟩; have hy16 := hy15.trans hx16))
      | (go_at_call 30; ((with_reducible refine (HW.out _).mono ?_); rintro e w17 ⟨rfl, hw17⟩; have hy17 : Ext w w17 := hw17 ▸ hy16))
      | (go_at_call 30; ((with_reducible refine (HV.out _).mono ?_); rintro e w18 ⟨rfl, hw18⟩; have hy18 : Ext w w18 := hw18 ▸ hy17)))
    go_ret
    exact ⟨rfl, hy18⟩

theorem classAlgebra_walk (pa pb : Nat → Bool) (b : Int) (wb : (Lit.int .u8 b).wf = true) (w : World) (hE : ∃ A, ErrsAt w A) :
    Calls Tryd.prog 9 #[setV pa, setV pb, .int .u8 b] w fun r w' => r = .returned (.bool true) ∧ Ext w w' := by
  obtain ⟨A, hA⟩ := hE
  obtain ⟨h0, h1⟩ : 0 ≤ b ∧ b ≤ 255 := by simpa [Lit.wf, IntKind.min, IntKind.max, IntKind.signed, IntKind.bits] using wb
  obtain ⟨n, rfl⟩ := Int.eq_ofNat_of_zero_le h0
  exact algebra_core pa pb n _ A w (by omega) rfl hA

end Go.Proofs.YteahmkhmkalimaaDoor
