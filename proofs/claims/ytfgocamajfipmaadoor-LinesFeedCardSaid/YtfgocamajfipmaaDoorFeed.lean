/- The reader's Feed as a contract over lists of bytes. Conditions: the reader is not ended; lengths below a process's memory. -/
import Derived.Test.YtfgocamajfipmaaDoorFeedA
import Derived.Deep.RegionHeld3
namespace Go.Proofs.YtfgocamajfipmaaDoor
open Go.RowKit

theorem info_u8 : (Tryd.prog.info? 5).map (fun i => (i.zero, i.size, i.bytes)) = some (some (.int .u8 0), 1, 1) := by kernel_rfl
theorem info_str : (Tryd.prog.info? 9).map (fun i => (i.zero, i.size, i.bytes)) = some (some (.string ⟨#[]⟩), 1, 16) := by kernel_rfl
def lenV : Value → Nat
  | .slice _ n _ => n
  | _ => 0
/-- Which blocks Feed may turn: the reader's own, and what it holds. -/
abbrev feedF (g : Nat) (hv : Value) : Nat → Prop := fun k => k = g ∨ hv.ownBlock = some k

set_option maxRecDepth 100000 in
set_option maxHeartbeats 4000000 in
theorem feed_any (B g : Nat) (hv : Value) (held b : List UInt8) (cnt : Nat) (a : Addr) (c : Nat) (w : World)
    (hR : Blk w g 45 #[hv, .int .i64 (cnt : Int), .bool false]) (hH : Own1 w B 5 hv (uC held)) (hbc : b.length ≤ c) (hb : RdA w a b) (hag : a.block ≠ g)
    (hB : B ≤ w.heap.size) (hl : held.length + b.length ≤ 1000000000) (hcn : cnt + b.length ≤ 1000000000) :
    Calls Tryd.prog 9 #[.pointer (some ⟨g, 0, none⟩), .slice (some a) b.length c] w fun r w' => ∃ lv hv', r = .returned (.tuple #[lv, .nilIface]) ∧
      Own1 w' w.heap.size 9 lv ((splitL held b).1.map strV) ∧ Blk w' g 45 #[hv', .int .i64 ((cnt + (splitL held b).1.length : Nat) : Int), .bool false] ∧ Own1 w' B 5 hv' (uC (splitL held b).2) ∧
      (hv'.ownBlock = hv.ownBlock ∨ ∀ k, hv'.ownBlock = some k → w.heap.size ≤ k) ∧ Keeps (feedF g hv) w w' := by
  have hAl : b ≠ [] → a.block < w.heap.size := fun hne => by
    have := World.block_lt_of_cell? w _ (hb 0 (List.length_pos_iff.2 hne))
    rwa [add_block] at this
  have f2 := hR.frozen 2
  have c2 : w.cell? ⟨g, 2, none⟩ = some (.bool false) := hR.cell 2
  go_enter Tryd.func9, Tryd.ntmps9
  go_wp2
  go_loopw [1, 6, 7] (fun bv lv _ wr => ∃ (ls : List (List UInt8)) (h r : List UInt8) (hv1 : Value) (a1 : Addr) (c1 : Nat), bv = .slice (some a1) r.length c1 ∧ r.length ≤ c1 ∧ RdA wr a1 r ∧ a1.block = a.block ∧
      Own1 wr w.heap.size 9 lv (ls.map strV) ∧ Blk wr g 45 #[hv1, .int .i64 (cnt : Int), .bool false] ∧ Own1 wr B 5 hv1 (uC h) ∧ (hv1.ownBlock = hv.ownBlock ∨ hv1.ownBlock = none) ∧
      Keeps (feedF g hv) w wr ∧ splitL held b = (ls ++ (splitL h r).1, (splitL h r).2) ∧ h.length + r.length ≤ held.length + b.length ∧ ls.length + r.length ≤ b.length) (fun bv _ _ _ => lenV bv)
  case atStart => exact ⟨[], held, b, hv, a, c, rfl, hbc, hb, rfl, Own1.nil _ _ _, hR, hH, .inl rfl, Keeps.refl _ _, by simp, Nat.le_refl _, by simp⟩
  case round =>
    clear f2 c2 hR hH hb hbc
    obtain ⟨ls, h, r, hv1, a1, c1, rfl, hrc, hrd, hab, hL, hR, hH, hvb, hK, hsp, hn1, hn2⟩ := hrel
    have hIX := Lib.hid (fun W (hW : RdA W a1 r) => index_any a1 c1 r W hW)
    have hRD := Lib.hid hrd
    rcases index_cases r with ⟨hi, hfree⟩ | ⟨pre, post, hr, hpre, hi⟩
    · rw [hi] at hIX
      obtain ⟨A6, c6, rfl, _⟩ := hL.shape
      have hne : ¬ hv1.ownBlock = some g := hH.apartB hR (by decide)
      have q1 : IntKind.i64.wrap ((cnt : Int) + ((ls.map strV).length : Int)) = ((cnt + (ls.map strV).length : Nat) : Int) := by rw [IntKind.wrap_i64, List.length_map]; omega
      have hc0 : wr.cell? ⟨g, 0, none⟩ = some hv1 := hR.cell 0
      go_wp2_with (first
        | (go_at_call 17; refine (hIX.out _ hRD.out).mono ?_; rintro e w2 ⟨rfl, rfl⟩)
        | (at_builtin; refine wpList_appK rfl (.tmp 21) (.tmp 22) 28 rfl B 5 (.int .u8 0) 1 Tryd.underlying28 info_u8 rfl hv1 (uC h) (uC r) rfl hH (.inr ⟨a1, c1, (by rw [uC_len]; rfl), hRD.out.cells⟩) (uC_one r) (by rw [uC_len, uC_len]; omega) (by rw [uC_len, uC_len]; omega) (Nat.le_trans hB hK.size) ?_; intro v4 w4 own4 hg4 hb4 hn4; have hK4 := (Keeps.refl (fun k => hv1.ownBlock = some k) wr).grown hg4 (fun k hk => .inr hk); have hR4 := hR.keeps hK4 hne; have k0 : w4.cell? ⟨g, 0, none⟩ = some hv1 := hR4.cell 0; have k1 : w4.cell? ⟨g, 1, none⟩ = some (.int .i64 (cnt : Int)) := hR4.cell 1; have f0 := hR4.frozen 0; have f1 := hR4.frozen 1; have own5 := own4; obtain ⟨A4, c4, rfl, _⟩ := own4.shape))
      go_ret2
      have hs := splitL_free r h hfree
      have hsp' : splitL held b = (ls, h ++ r) := by rw [hsp, hs, List.append_nil]
      rw [hsp']
      have hKA : Keeps (feedF g hv1) wr ((w4.setCell ⟨g, 0, none⟩ (Value.slice A4 ((uC h).length + (uC r).length) c4)).setCell ⟨g, 1, none⟩ (Value.int IntKind.i64 ((cnt : Int) + (ls.length : Int)))) :=
        ((hK4.mono (fun _ _ hx => Or.inr hx)).setCell (F := feedF g hv1) (.inr (.inl rfl)) _).setCell (.inr (.inl rfl)) _
      have hKg : Keeps (fun k => k = g) w4 ((w4.setCell ⟨g, 0, none⟩ (Value.slice A4 ((uC h).length + (uC r).length) c4)).setCell ⟨g, 1, none⟩ (Value.int IntKind.i64 ((cnt : Int) + (ls.length : Int)))) :=
        ((Keeps.refl (fun k => k = g) w4).setCell (.inr rfl) _).setCell (.inr rfl) _
      rw [← List.length_append] at hKA hKg ⊢
      have hLg := hL.apartB hR (by decide)
      have hLh := hL.apart hH (by decide)
      have hOg := own5.apartB hR4 (by decide)
      rw [List.length_map] at hL hLg hLh
      refine ⟨.slice A6 ls.length c6, .slice A4 (uC h ++ uC r).length c4, rfl, ?_, ?_, ?_, ?_, ?_⟩
      · refine hL.keeps hKA (fun i hi hf => ?_)
        rcases hf with rfl | hx
        · exact hLg hi
        · exact hLh i hi hx
      · rw [show ((cnt + ls.length : Nat) : Int) = (cnt : Int) + (ls.length : Int) by omega]
        exact (hR4.set 0 _).set 1 _
      · rw [← uC_app]
        exact own5.keeps hKg (fun i hi hf => by subst hf; exact hOg hi)
      · rcases hb4 with h4 | h4
        · rcases hvb with h5 | h5
          · exact .inl (h4.trans h5)
          · exact .inr (fun k hk => by rw [h4, h5] at hk; cases hk)
        · exact .inr (fun k hk => by rw [h4] at hk; simp only [Option.some.injEq] at hk; subst hk; exact hK.size)
      · refine hK.trans hKA (fun i hi hf => ?_)
        rcases hf with rfl | hx
        · exact .inl rfl
        · rcases hvb with h5 | h5
          · exact .inr (h5 ▸ hx)
          · rw [h5] at hx; cases hx
    · rw [hi] at hIX
      have HRL : Hid (r.length = pre.length + 1 + post.length) := Lib.hid (by rw [hr]; simp; omega)
      have HR := Lib.hid hr
      clear hr hi
      have hpl : (-1 : Int) < (pre.length : Int) := by omega
      have hp0 : (0 : Int) ≤ (pre.length : Int) := by omega
      have hnn : ¬ (pre.length : Int) < 0 := by omega
      go_upto_region 9 with (go_at_call 17; refine (hIX.out _ hRD.out).mono ?_; rintro e w2 ⟨rfl, rfl⟩)
      obtain ⟨A6, c6, rfl, _⟩ := hL.shape
      have hLg := hL.apartB hR (by decide)
      have hLh := hL.apart hH (by decide)
      have hpre1 : pre.length ≤ r.length := by have := HRL.out; omega
      have hal : a1.block < w.heap.size := by rw [hab]; exact hAl (by intro e; rw [e, HRL.out] at hn2; simp at hn2)
      obtain ⟨FF, hFF⟩ : ∃ FF : Nat → Prop, ∀ k, FF k ↔ (Value.slice A6 (ls.map strV).length c6).ownBlock = some k := ⟨_, fun _ => Iff.rfl⟩
      have S1 : ∀ W, Keeps FF wr W → W.cell? ⟨g, 0, none⟩ = some hv1 := fun W hW => cell_keeps (hR.cell 0) hW (fun hf => hLg ((hFF _).1 hf))
      have S2 : ∀ W, Keeps FF wr W → (convert 28 9 hv1).run Tryd.prog W = .ok (strV h) W := fun W hW => conv_own W B _ _ _ (hH.keeps hW (fun i hi hf => hLh i ((hFF _).1 hf) hi))
      have S3 : ∀ W, (Instr.slice 28 (.slice (some a1) r.length c1) none (some (.int .i64 (pre.length : Int))) none).run Tryd.prog W = .ok (.slice (some a1) pre.length c1) W := fun W => slice_to W a1 r.length c1 pre.length hpre1 hrc
      have S4 : ∀ W, Keeps FF wr W → (convert 28 9 (.slice (some a1) pre.length c1)).run Tryd.prog W = .ok (strV pre) W := fun W hW => conv_at W a1 c1 pre ((RdA.take (r := 10 :: post) (HR.out ▸ hRD.out)).keeps hW (fun _ hf => by have := (hL.own _ ((hFF _).1 hf)).1; omega))
      have S5 : ∀ W, (Op.stringOp .add ⟨h.toArray⟩ ⟨pre.toArray⟩).run Tryd.prog W = .ok (strV (h ++ pre)) W := fun W => add_str h pre (by omega) W
      obtain ⟨sb, hsb⟩ : ∃ sb : ByteArray, strV (h ++ pre) = .string sb := ⟨_, rfl⟩
      rw [hsb] at S5
      have HSB := Lib.hid hsb
      clear hsb
      unfold strV at S2 S4
      generalize (⟨h.toArray⟩ : ByteArray) = sh at S2 S5
      generalize (⟨pre.toArray⟩ : ByteArray) = sp at S4 S5
      have KF := Lib.hid hFF
      clear hFF
      go_region_held3 (fun W => Keeps FF wr W)
        ((first | assumption | exact (Keeps.refl _ _).drew | exact Keeps.alloc (by assumption) _))
        ((rw [if_pos (by rfl)]; refine wp_appK (.tmp 36) (.tmp 47) 27 rfl w.heap.size 9 (.string ⟨#[]⟩) 16 Tryd.underlying27 info_str rfl (Value.slice A6 (ls.map strV).length c6) (ls.map strV) [.string sb] (by rw [List.length_map]; rfl) (hL.keeps (((Keeps.refl (fun _ => False) _).drew).alloc _) (fun _ _ hf => hf)) (.inr ⟨⟨wr.heap.size, 0, none⟩, 1, by rfl, cell_one_new _ _ _⟩) (by simp [Value.oneCell']) (by simp; omega) (by simp; omega) (by have := hK.size; simp; omega) ?_; intro v4 w4 own4 hg4 hb4 hn4; have hK4 : Keeps FF wr w4 := ((((Keeps.refl FF wr).drew).alloc _).grown hg4 (fun k hk => .inr ((KF.out k).2 hk)))))
      have hRL := HRL.out
      have S6 : ∀ W, (Instr.slice 28 (.slice (some a1) r.length c1) (some (.int .i64 ((pre.length : Int) + 1))) none none).run Tryd.prog W = .ok (.slice (some (tlA a1 c1 (pre.length + 1))) (r.length - (pre.length + 1)) (c1 - (pre.length + 1))) W := fun W => by
        have := slice_from W a1 r.length c1 (pre.length + 1) (by omega)
        rwa [show ((pre.length + 1 : Nat) : Int) = (pre.length : Int) + 1 by omega] at this
      have q2 : IntKind.i64.wrap ((pre.length : Int) + 1) = (pre.length : Int) + 1 := by rw [IntKind.wrap_i64]; omega
      have e1 : r.length - (pre.length + 1) = post.length := by omega
      rw [e1] at S6
      clear hRL e1
      have hR4 := hR.keeps hK4 (fun hf => hLg ((KF.out _).1 hf))
      have f0 := hR4.frozen 0
      have k0 : w4.cell? ⟨g, 0, none⟩ = some hv1 := hR4.cell 0
      clear S1 S2 S3 S4 S5
      go_wp2
      have hKK : Keeps (fun k => k = g ∨ FF k) wr (w4.setCell ⟨g, 0, none⟩ (.slice none 0 0)) := (hK4.mono (fun _ _ hx => Or.inr hx)).setCell (F := fun k => k = g ∨ FF k) (.inr (.inl rfl)) _
      have hKg : Keeps (fun k => k = g) w4 (w4.setCell ⟨g, 0, none⟩ (.slice none 0 0)) := (Keeps.refl (fun k => k = g) w4).setCell (.inr rfl) _
      have hOg := own4.apartB hR4 (by decide)
      have hFw : ∀ k, FF k → w.heap.size ≤ k := fun k hk => (hL.own k ((KF.out k).1 hk)).1
      have hRL := HRL.out
      refine ⟨⟨ls ++ [h ++ pre], [], post, .slice none 0 0, _, _, rfl, by omega, ?_, by rw [tlA_block]; exact hab, ?_, ?_, Own1.nil _ _ _, .inr rfl, ?_, ?_, by simp; omega, by simp; omega⟩, by simp only [lenV]; omega⟩
      · have ht := hRD.out
        rw [HR.out] at ht
        refine (ht.tail (by rw [← HR.out]; exact hrc)).keeps hKK (fun _ hf => ?_)
        rw [tlA_block] at hf
        rcases hf with h5 | h5
        · exact hag (hab ▸ h5)
        · have := hFw _ h5; omega
      · rw [List.map_append, List.map_cons, List.map_nil, HSB.out]
        exact own4.keeps hKg (fun i hi hf => by subst hf; exact hOg hi)
      · exact hR4.set 0 _
      · refine hK.trans hKK (fun i hi hf => ?_)
        rcases hf with h5 | h5
        · exact .inl h5
        · have := hFw _ h5; omega
      · rw [hsp, HR.out, splitL_cut pre h post hpre]
        simp

end Go.Proofs.YtfgocamajfipmaaDoor
