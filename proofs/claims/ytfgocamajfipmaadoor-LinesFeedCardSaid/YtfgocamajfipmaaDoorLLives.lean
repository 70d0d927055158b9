/- The fixed fact of layer 27's statements as a contract. No condition. -/
import Derived.Test.YtfgocamajfipmaaDoorPieces
import Derived.Lib.SlBytesConst
namespace Go.Proofs.YtfgocamajfipmaaDoor
open Go.RowKit

/-- A line reader at block g: what it holds, how many lines it has told, whether it is ended. -/
structure Rdr (w : World) (B g : Nat) (hv : Value) (held : List UInt8) (cnt : Nat) (e : Bool) : Prop where
  blk : Blk w g 45 #[hv, .int .i64 (cnt : Int), .bool e]
  own : Own1 w B 5 hv (uC held)
theorem Rdr.keeps {F : Nat → Prop} {w w' : World} {B g : Nat} {hv : Value} {held : List UInt8} {cnt : Nat} {e : Bool} (h : Rdr w B g hv held cnt e) (k : Keeps F w w') (hg : ¬ F g) (ho : ∀ i, hv.ownBlock = some i → ¬ F i) : Rdr w' B g hv held cnt e :=
  ⟨h.blk.keeps k hg, h.own.keeps k ho⟩
theorem Rdr.ext {w w' : World} {B g : Nat} {hv : Value} {held : List UInt8} {cnt : Nat} {e : Bool} (h : Rdr w B g hv held cnt e) (k : Ext w w') : Rdr w' B g hv held cnt e := ⟨h.blk.ext k, h.own.ext k⟩
theorem Rdr.new (w : World) (B : Nat) : Rdr (w.alloc (.cells #[.slice none 0 0, .int .i64 0, .bool false] 45)) B w.heap.size (.slice none 0 0) [] 0 false := ⟨Blk.new w _ _, Own1.nil _ _ _⟩
theorem Rdr.apart {w : World} {B g : Nat} {hv : Value} {held : List UInt8} {cnt : Nat} {e : Bool} (h : Rdr w B g hv held cnt e) : ¬ hv.ownBlock = some g := h.own.apartB h.blk (by decide)
/-- A slice of strings lies in other blocks than a reader and what it holds. -/
theorem Rdr.far {w : World} {B B' g : Nat} {hv : Value} {held : List UInt8} {cnt : Nat} {e : Bool} (h : Rdr w B g hv held cnt e) {v : Value} {xs : List Value} (hv' : Own1 w B' 9 v xs) : ∀ i, v.ownBlock = some i → ¬ feedF g hv i := fun i hi hf => by
  rcases hf with rfl | hf
  · exact hv'.apartB h.blk (by decide) hi
  · exact hv'.apart h.own (by decide) i hi hf

theorem feed_rdr (B g : Nat) (hv : Value) (held b : List UInt8) (cnt : Nat) (a : Addr) (c : Nat) (w : World)
    (hR : Rdr w B g hv held cnt false) (hbc : b.length ≤ c) (hb : RdA w a b) (hag : a.block ≠ g)
    (hB : B ≤ w.heap.size) (hl : held.length + b.length ≤ 1000000000) (hcn : cnt + b.length ≤ 1000000000) :
    Calls Tryd.prog 9 #[.pointer (some ⟨g, 0, none⟩), .slice (some a) b.length c] w fun r w' => ∃ lv hv', r = .returned (.tuple #[lv, .nilIface]) ∧
      Own1 w' w.heap.size 9 lv ((splitL held b).1.map strV) ∧ Rdr w' B g hv' (splitL held b).2 (cnt + (splitL held b).1.length) false ∧
      (hv'.ownBlock = hv.ownBlock ∨ ∀ k, hv'.ownBlock = some k → w.heap.size ≤ k) ∧ Keeps (feedF g hv) w w' :=
  (feed_any B g hv held b cnt a c w hR.blk hR.own hbc hb hag hB hl hcn).mono fun _ _ ⟨lv, hv', h1, h2, h3, h4, h5, h6⟩ => ⟨lv, hv', h1, h2, ⟨h3, h4⟩, h5, h6⟩
theorem end_rdr (B g : Nat) (hv : Value) (held : List UInt8) (cnt : Nat) (w : World) (hR : Rdr w B g hv held cnt false) (hcn : cnt ≤ 1000000000000) :
    Calls Tryd.prog 10 #[.pointer (some ⟨g, 0, none⟩)] w fun r w' => ∃ hv', r = .returned (.tuple #[strV held, .bool (endB held), .nilIface]) ∧
      Rdr w' B g hv' [] (cnt + endN held) true ∧ Keeps (fun k => k = g) w w' :=
  (end_any B g hv held cnt w hR.blk hR.own hcn).mono fun _ _ ⟨hv', h1, h2, h3, h4⟩ => ⟨hv', h1, ⟨h2, h3⟩, h4⟩

set_option maxRecDepth 100000 in
set_option maxHeartbeats 2000000 in
theorem lLives_any (w : World) :
    Calls Tryd.prog 6 #[] w fun r w' => r = .returned (.bool true) ∧ Ext w w' := by
  have kc := fun (w : World) (C : Array Value) (n c : Nat) => Lib.run_convert_bytes_const (P := Tryd.prog) w 28 5 C n c Tryd.underlying28 Tryd.underlying5
  have HN := Lib.hid (fun W => new_any W)
  have hR0 := Rdr.new w w.heap.size
  have hx0 : Ext w (w.alloc (.cells #[.slice none 0 0, .int .i64 0, .bool false] 45)) := (Ext.refl w).alloc _
  go_enter Tryd.func6, Tryd.ntmps6
  go_upto_region 4 with (go_at_call 8; refine (HN.out _).mono ?_; rintro e w1 ⟨rfl, rfl⟩)
  generalize w.alloc (.cells #[.slice none 0 0, .int .i64 0, .bool false] 45) = w1 at *
  have hgl : w.heap.size < w1.heap.size := hR0.blk.lt
  have hx2 : Ext w1 (w1.alloc (.cells #[.int .u8 97, .int .u8 10, .int .u8 98] 5 (3, 4))) := (Ext.refl w1).alloc _
  have hR2 := hR0.ext hx2
  have hb : RdA (w1.alloc (.cells #[.int .u8 97, .int .u8 10, .int .u8 98] 5 (3, 4))) ⟨w1.heap.size, 0, none⟩ [97, 10, 98] := fun j hj => by
    have ea : (⟨w1.heap.size, 0, none⟩ : Addr).add j = ⟨w1.heap.size, j, none⟩ := by unfold Addr.add; split <;> simp_all
    rw [ea, World.cell?_alloc_mark]
    have : j < 3 := hj
    rcases (show j = 0 ∨ j = 1 ∨ j = 2 from by omega) with rfl | rfl | rfl <;> rfl
  have hF := Lib.hid (feed_rdr w.heap.size w.heap.size (.slice none 0 0) [] [97, 10, 98] 0 ⟨w1.heap.size, 0, none⟩ 3 _ hR2 (by decide) hb (by simp; omega) (by simp; omega) (by decide) (by decide))
  go_upto_region 5 with (go_at_call 9; refine hF.out.mono ?_; rintro e w3 ⟨lv, hv3, rfl, hL3, hR3, _, hK3⟩)
  have hsp : splitL [] [97, 10, 98] = ([[97]], [98]) := by decide
  rw [hsp] at hL3 hR3
  have hx3 : Ext w w3 := (hx0.trans hx2).keeps hK3 (fun i hi hf => by
    rcases hf with rfl | hf
    · omega
    · cases hf)
  have hE := Lib.hid (end_rdr w.heap.size w.heap.size hv3 [98] 1 w3 hR3 (by decide))
  clear kc hF hb hK3 hR2 hR0 hx0 hx2 hsp
  go_upto_region 6 with (go_at_call 10; refine hE.out.mono ?_; rintro e w4 ⟨hv4, rfl, hR4, hK4⟩)
  have hx4 : Ext w w4 := hx3.keeps hK4 (fun i hi hf => by omega)
  have hL4 := hL3.keeps hK4 (fun i hi hf => by subst hf; exact hL3.apartB hR3.blk (by decide) hi)
  clear hL3 hR3 hK4 hx3 hE
  have hL5 := RdT.of_own (hL4.ext ((Ext.refl w4).alloc (.cells #[.string ⟨#[97]⟩] 9)))
  have hT5 : RdT (w4.alloc (.cells #[.string ⟨#[97]⟩] 9)) (.slice (some ⟨w4.heap.size, 0, none⟩) 1 1) [[97]] := ⟨_, 1, rfl, fun j hj => ⟨w4.heap.size, 0, rfl, by
    have : j = 0 := by simpa using hj
    subst this
    rw [(Blk.new w4 _ _).cell]
    rfl⟩⟩
  have hR5 := hR4.blk.ext ((Ext.refl w4).alloc (.cells #[.string ⟨#[97]⟩] 9))
  have hx5 := hx4.alloc (.cells #[.string ⟨#[97]⟩] 9)
  have hS := Lib.hid (same_any _ _ _ _ hL5 hT5 (by decide))
  have hC := Lib.hid (fun W h => count_any w.heap.size hv4 2 true W h)
  have hR5 := Lib.hid hR5
  rw [show strV [98] = .string ⟨#[98]⟩ from rfl, show endB [98] = true by decide]
  clear hL5 hT5 hR4 hL4
  go_wp2_with (first
    | (go_at_call 11; refine hS.out.mono ?_; rintro e w6 ⟨rfl, hx6⟩)
    | (go_at_call 12; refine (hC.out _ (hR5.out.ext hx6)).mono ?_; rintro e w7 ⟨rfl, rfl⟩))
  go_ret
  exact ⟨rfl, hx5.trans hx6⟩

end Go.Proofs.YtfgocamajfipmaaDoor
