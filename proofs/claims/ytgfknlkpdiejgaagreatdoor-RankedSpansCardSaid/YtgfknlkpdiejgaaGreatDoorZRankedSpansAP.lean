/- As InvT's law, and behind the first n operations several more, one behind the other, that may write. No condition. engine.lead as a contract: the places that a right tree leads to, forwards or backwards. Conditions: the engine, the scene, the tree, the words and the library's table lie in memory. bits.Len64 at this program: the shelf's contract, laid. No condition. ranked.last as a contract: the greatest place in both sets. Condition: the words lie in memory. -/
import Derived.Test.YtgfknlkpdiejgaaGreatDoorZRankedSpansAO
import Derived.Test.YtgfknlkpdiejgaaGreatDoorZRankedSpansAN
import Derived.Test.YtgfknlkpdiejgaaGreatDoorZRankedSpansAK
import Derived.Shelf.Strconv.Itoa0
import Derived.Test.YtgfknlkpdiejgaaGreatDoorProg
import Derived.Test.YtgfknlkpdiejgaaGreatDoorZRankedSpansAM
import Derived.Lib.ItoaNum
namespace Go.Proofs.YtgfknlkpdiejgaaGreatDoor
open Go Go.RowKit

section
variable {P : Program} {ops : Array Oper} {md : Region.Mode} {Q : Exit → Act → World → Prop} {w0 : World}

def headA (m n : Nat) : Array Bool := (List.replicate n true ++ List.replicate (m - n) false).toArray
theorem wpAny_invz (n : Nat) (hn : n < ops.size) (T : (Nat → Value) → Act) (Post : Nat → Value → World → Prop) (stable : ∀ i v W W', Ext W W' → Post i v W → Post i v W')
    (hback : (List.range ops.size).all (fun i => (depsL md ops i).all (decide <| · < i)) = true)
    (hs : Region.sinkB md ops n = true) (hc : Region.chainB md ops n = true) (hq : Region.seqB md ops (ops.size - n) n (headA ops.size n) = true)
    (step : ∀ i o, i < n → ops[i]? = some o → ∀ u W, Ext w0 W → (∀ j ∈ depsL md ops i, Post j (u j) W) → wpList P ops (stepQ fun a' W' => Ext W W' ∧ ∃ v, a' = T (updN u i v) ∧ Post i v W') [o] (T u) W)
    (done : ∀ u W, Ext w0 W → (∀ j, j < n → Post j (u j) W) → wpList P ops Q (ops.toList.drop n) (T u) W) :
    ∀ (f : Nat) (listed : Array Bool) (u : Nat → Value) (W : World), Ext w0 W → HeadInv md ops n listed → cntF listed.toList = f →
      (∀ j, j < n → listed.getD j false = true → Post j (u j) W) → wpAny P md ops Q f listed (T u) W := fun f => by
  induction f with
  | zero =>
    intro listed u W hx inv hcn hp
    exact (cntF_zero _ hcn n (getD_false_iff.1 (inv.tail n (Nat.le_refl _) hn))).elim
  | succ f ih =>
    intro listed u W hx inv hcn hp
    by_cases hall : ∀ j, j < n → listed.getD j true = true
    · have he : listed = headA ops.size n := by
        apply Array.ext
        · simp [headA, inv.size]; omega
        · intro i h1 h2
          have h3 : i < ops.size := by rw [← inv.size]; exact h1
          rcases Nat.lt_or_ge i n with h | h
          · have := hall i h
            rw [Array.getD_eq_getD_getElem?, Array.getElem?_eq_getElem h1] at this
            simp only [Option.getD_some] at this
            rw [this]
            simp [headA, h]
          · have := inv.tail i h h3
            rw [Array.getD_eq_getD_getElem?, Array.getElem?_eq_getElem h1] at this
            simp only [Option.getD_some] at this
            rw [this]
            simp [headA, List.getElem_append_right, h]
      have hlen : (ops.toList.drop n).length = ops.size - n := by simp
      have hf : f + 1 = ops.size - n := by
        rw [← hcn, he]
        unfold headA cntF
        simp
      have := wpAny_of_seq (md := md) (Q' := Q) (ops.toList.drop n) n listed (T u) W (fun j => by simp [List.getElem?_drop]) (by rw [hlen, he]; exact hq) (done u W hx (fun j hj => hp j hj (by
        have := hall j hj
        have h3 : j < listed.size := by rw [inv.size]; omega
        rw [Array.getD_eq_getD_getElem?, Array.getElem?_eq_getElem h3] at this ⊢
        exact this)))
      rw [hlen, ← hf] at this
      exact this
    · obtain ⟨i0, hi0⟩ := Classical.not_forall.1 hall
      obtain ⟨hi0n, hi0u⟩ := Classical.not_imp.1 hi0
      have hun0 : listed.getD i0 true = false := by simpa using hi0u
      refine ⟨fun hr => absurd hr (ready_some inv.size hback i0 hun0), fun i hi => ?_⟩
      have hin : i < n := by
        rcases Nat.lt_or_ge i n with h | h
        · exact h
        · exact absurd hi (tail_waits hs hc hn inv _ i0 rfl hi0n hun0 i h)
      obtain ⟨hun, o, ho, hdeps⟩ := mem_ready.1 hi
      have hdl : ∀ j ∈ depsL md ops i, listed.getD j false = true := fun j hj => by
        unfold depsL at hj
        rw [ho] at hj
        obtain ⟨e, he, rfl⟩ := List.mem_map.1 hj
        obtain ⟨he1, he2⟩ := List.mem_filter.1 he
        exact hdeps e (by simpa using he1) he2
      have hdlt : ∀ j ∈ depsL md ops i, j < i := fun j hj => by
        have := (List.all_eq_true.1 hback) i (List.mem_range.2 (by omega))
        simpa using (List.all_eq_true.1 this) _ hj
      refine wpOp_of_list ho ?_ (step i o hin ho u W hx (fun j hj => hp j (by have := hdlt j hj; omega) (hdl j hj)))
      rintro a' W' ⟨hx', v, rfl, hv⟩
      refine ih (listed.setIfInBounds i true) (updN u i v) W' (hx.trans hx') (inv.set hi hin) ?_ (fun j hj hl => ?_)
      · rw [Array.toList_setIfInBounds]
        have := cntF_set listed.toList i (getD_false_iff.1 hun)
        omega
      · unfold updN
        by_cases hji : j = i
        · rw [if_pos hji, hji]; exact hv
        · rw [if_neg hji]
          rw [getD_set_ne false (fun e => hji e.symm)] at hl
          exact stable j _ W W' hx' (hp j hj hl)
end

theorem wp_region_tagz {P : Program} {Q : Exit → Act → World → Prop} {id : Nat} {l : List Oper} {tm : List Value} {ds : List Deferred} {w : World} (k n : Nat) (tg : List Tg) (hm : P.follows .mixedOrders = true) (hn0 : decide (n < l.toArray.size) = true) (hk : decide (k + n ≤ tm.length) = true)
    (hback : (List.range l.toArray.size).all (fun i => (depsL .any l.toArray i).all (decide <| · < i)) = true)
    (hs : Region.sinkB .any l.toArray n = true) (hc : Region.chainB .any l.toArray n = true) (hq : Region.seqB .any l.toArray (l.toArray.size - n) n (headA l.toArray.size n) = true)
    (h : ∀ T : (Nat → Value) → Act, (∀ u, T u = { tmps := spliceT tm k n u, defers := ds }) →
      AllS (fun i o => ∀ u W, Ext w W → (∀ j ∈ depsL .any l.toArray i, postL tg j (u j) W) → wpList P l.toArray (stepQ fun a' W' => Ext W W' ∧ ∃ v, a' = T (updN u i v) ∧ postL tg i v W') [o] (T u) W) 0 (l.take n) ∧
      ∀ u W, Ext w W → (∀ j, j < n → postL tg j (u j) W) → wpList P l.toArray Q (l.drop n) (T u) W) : (Code.region id l.toArray true).wp P Q { tmps := tm.toArray, defers := ds } w := by
  obtain ⟨h1, h2⟩ := h (fun u => { tmps := spliceT tm k n u, defers := ds }) (fun _ => rfl)
  refine wp_region_any hm ?_
  rw [splice_self tm k n (of_decide_eq_true hk)]
  refine wpAny_invz (w0 := w) n (of_decide_eq_true hn0) (fun u => { tmps := spliceT tm k n u, defers := ds }) (postL tg) (postL_ext tg) hback hs hc hq (fun i o hi ho => ?_) (fun u W hx hp => h2 u W hx hp) l.toArray.size (Array.replicate l.toArray.size false) (fun i => tm.getD (k + i) undef) _ (Ext.refl w).drew ⟨by simp, fun j oj _ hl => (by rw [getD_replicate_false] at hl; cases hl), fun t _ ht => getD_in (by simpa using ht) (getD_replicate_false _ _)⟩ ?_ (fun j _ hl => ?_)
  · have := AllS.get _ 0 h1 i o (by rw [List.getElem?_take, if_pos hi]; simpa using ho)
    rw [Nat.zero_add] at this
    exact this
  · rw [Array.toList_replicate]
    unfold cntF
    rw [List.filter_replicate]
    simp
  · rw [getD_replicate_false] at hl
    cases hl

/-- What each temporary holds, as a list of conditions that last along growth. -/
def postP (tg : List (Value → World → Prop)) (i : Nat) (v : Value) (W : World) : Prop := match tg[i]? with | some p => p v W | none => True
def Lasts (tg : List (Value → World → Prop)) : Prop := ∀ p ∈ tg, ∀ v W W', Ext W W' → p v W → p v W'
theorem Lasts.nil : Lasts [] := fun _ h => by cases h
theorem Lasts.cons {p : Value → World → Prop} {tg : List (Value → World → Prop)} (hp : ∀ v W W', Ext W W' → p v W → p v W') (h : Lasts tg) : Lasts (p :: tg) := fun q hq => by
  rcases List.mem_cons.1 hq with rfl | hq
  · exact hp
  · exact h q hq
theorem Lasts.is {x : Value} {tg : List (Value → World → Prop)} (h : Lasts tg) : Lasts ((fun v _ => v = x) :: tg) := h.cons fun _ _ _ _ h => h
theorem wp_region_predz {P : Program} {Q : Exit → Act → World → Prop} {id : Nat} {l : List Oper} {tm : List Value} {ds : List Deferred} {w : World} (k n : Nat) (tg : List (Value → World → Prop)) (hst : Lasts tg) (hm : P.follows .mixedOrders = true) (hn0 : decide (n < l.toArray.size) = true) (hk : decide (k + n ≤ tm.length) = true)
    (hback : (List.range l.toArray.size).all (fun i => (depsL .any l.toArray i).all (decide <| · < i)) = true)
    (hs : Region.sinkB .any l.toArray n = true) (hc : Region.chainB .any l.toArray n = true) (hq : Region.seqB .any l.toArray (l.toArray.size - n) n (headA l.toArray.size n) = true)
    (h : ∀ T : (Nat → Value) → Act, (∀ u, T u = { tmps := spliceT tm k n u, defers := ds }) →
      AllS (fun i o => ∀ u W, Ext w W → (∀ j ∈ depsL .any l.toArray i, postP tg j (u j) W) → wpList P l.toArray (stepQ fun a' W' => Ext W W' ∧ ∃ v, a' = T (updN u i v) ∧ postP tg i v W') [o] (T u) W) 0 (l.take n) ∧
      ∀ u W, Ext w W → (∀ j, j < n → postP tg j (u j) W) → wpList P l.toArray Q (l.drop n) (T u) W) : (Code.region id l.toArray true).wp P Q { tmps := tm.toArray, defers := ds } w := by
  obtain ⟨h1, h2⟩ := h (fun u => { tmps := spliceT tm k n u, defers := ds }) (fun _ => rfl)
  refine wp_region_any hm ?_
  rw [splice_self tm k n (of_decide_eq_true hk)]
  refine wpAny_invz (w0 := w) n (of_decide_eq_true hn0) (fun u => { tmps := spliceT tm k n u, defers := ds }) (postP tg) (fun i v W W' hx hp => ?_) hback hs hc hq (fun i o hi ho => ?_) (fun u W hx hp => h2 u W hx hp) l.toArray.size (Array.replicate l.toArray.size false) (fun i => tm.getD (k + i) undef) _ (Ext.refl w).drew ⟨by simp, fun j oj _ hl => (by rw [getD_replicate_false] at hl; cases hl), fun t _ ht => getD_in (by simpa using ht) (getD_replicate_false _ _)⟩ ?_ (fun j _ hl => ?_)
  · unfold postP at *
    cases e : tg[i]? with
    | none => trivial
    | some q =>
      rw [e] at hp
      exact hst q (List.mem_of_getElem? e) v W W' hx hp
  · have := AllS.get _ 0 h1 i o (by rw [List.getElem?_take, if_pos hi]; simpa using ho)
    rw [Nat.zero_add] at this
    exact this
  · rw [Array.toList_replicate]
    unfold cntF
    rw [List.filter_replicate]
    simp
  · rw [getD_replicate_false] at hl
    cases hl

end Go.Proofs.YtgfknlkpdiejgaaGreatDoor

namespace Go.Proofs.YtgfknlkpdiejgaaGreatDoor
open Go Go.RowKit

theorem form_rep {h : Hd} {subs : List Nd} (hf : formB (.mk h subs) = true) (hk : h.kind = 8) : h.max = -1 ∨ h.min ≤ h.max := by
  rw [formB, Bool.and_eq_true] at hf
  have h1 := hf.1
  unfold formedB at h1
  rw [if_neg (by omega), if_neg (by omega), if_neg (by omega), if_neg (by omega), if_pos hk] at h1
  simp only [Bool.and_eq_true, Bool.or_eq_true, decide_eq_true_eq] at h1
  omega
section
variable {x : Value} {s : ByteArray} {m : List UInt8} {nw : Nat}
set_option maxRecDepth 100000 in
set_option maxHeartbeats 16000000 in
theorem lead_one (h : Hd) (subs : List Nd) (IH : ∀ n ∈ subs, LeadOf x s m (lfM s m) nw n) (hnw : s.size / 64 < nw) (hnn : nw ≤ 100000000) (hss : s.size ≤ 1000000) (hm : m.length ≤ 10000000) (hll : subs.length ≤ 1000000000) : LeadOf x s m (lfM s m) nw (.mk h subs) := by
  intro ev sv svn v tg tk back p w hf hE hS hA hN hT hR hp
  have hsub := form_sub hf
  have hcase := form_cases hf
  have HMX : Hid (h.kind = 8 → h.max = -1 ∨ h.min ≤ h.max) := Lib.hid (form_rep hf)
  have HE := Lib.hid hE
  obtain ⟨ge, hev, hge⟩ := hE
  subst hev
  have HS := Lib.hid hS
  have HA := Lib.hid hA
  have HN := Lib.hid hN
  have HT := Lib.hid hT
  have HRD := Lib.hid hR
  have HP := Lib.hid hp
  have HIH := Lib.hid IH
  have HSUB := Lib.hid hsub
  have hrl := hR.lt (by omega)
  have HRL := Lib.hid hrl
  obtain ⟨A, c, rfl, hlc⟩ := hR.shape
  simp only [Nd.h] at hA HA
  have n0 : w.cell? ⟨tg, tk, none⟩ = some (.int .i64 h.kind) := hA 0 (by decide)
  have n5 : w.cell? ⟨tg, tk + 5, none⟩ = some svn := hA 5 (by decide)
  have n7 : w.cell? ⟨tg, tk + 7, none⟩ = some (.int .i64 h.min) := hA 7 (by decide)
  have n8 : w.cell? ⟨tg, tk + 8, none⟩ = some (.int .i64 h.max) := hA 8 (by decide)
  obtain ⟨SA, sc, rfl, hNs⟩ := hN
  have HNS := Lib.hid hNs
  have htab : 21 < w.heap.size := World.block_lt_of_cell? w _ (hT 0 (by decide))
  clear hf hge hS hA hT hR hp IH hsub hrl hNs
  go_enter Tryz.func25, Tryz.ntmps25
  go_upto_region 1 with fail
  have hx1 : Ext w (((w.alloc (.cells #[.pointer (some ⟨ge, 0, none⟩)] 63)).alloc (.cells #[.pointer (some ⟨tg, tk, none⟩)] 70)).alloc (.cells #[.bool back] 4)) := (((Ext.refl w).alloc _).alloc _).alloc _
  have hb1 : Blk (((w.alloc (.cells #[.pointer (some ⟨ge, 0, none⟩)] 63)).alloc (.cells #[.pointer (some ⟨tg, tk, none⟩)] 70)).alloc (.cells #[.bool back] 4)) w.heap.size 63 #[.pointer (some ⟨ge, 0, none⟩)] := ((Blk.new w _ _).alloc _).alloc _
  have hb2 : Blk (((w.alloc (.cells #[.pointer (some ⟨ge, 0, none⟩)] 63)).alloc (.cells #[.pointer (some ⟨tg, tk, none⟩)] 70)).alloc (.cells #[.bool back] 4)) (w.heap.size + 1) 70 #[.pointer (some ⟨tg, tk, none⟩)] := by
    have := (Blk.new (w.alloc (.cells #[.pointer (some ⟨ge, 0, none⟩)] 63)) 70 #[.pointer (some ⟨tg, tk, none⟩)]).alloc (.cells #[.bool back] 4)
    rwa [World.size_alloc] at this
  have hb3 : Blk (((w.alloc (.cells #[.pointer (some ⟨ge, 0, none⟩)] 63)).alloc (.cells #[.pointer (some ⟨tg, tk, none⟩)] 70)).alloc (.cells #[.bool back] 4)) (w.heap.size + 1 + 1) 4 #[.bool back] := by
    have := Blk.new ((w.alloc (.cells #[.pointer (some ⟨ge, 0, none⟩)] 63)).alloc (.cells #[.pointer (some ⟨tg, tk, none⟩)] 70)) 4 #[.bool back]
    rwa [World.size_alloc, World.size_alloc] at this
  have hs1 : (((w.alloc (.cells #[.pointer (some ⟨ge, 0, none⟩)] 63)).alloc (.cells #[.pointer (some ⟨tg, tk, none⟩)] 70)).alloc (.cells #[.bool back] 4)).heap.size = w.heap.size + 1 + 1 + 1 := by rw [World.size_alloc, World.size_alloc, World.size_alloc]
  generalize ((w.alloc (.cells #[.pointer (some ⟨ge, 0, none⟩)] 63)).alloc (.cells #[.pointer (some ⟨tg, tk, none⟩)] 70)).alloc (.cells #[.bool back] 4) = w1 at *
  obtain ⟨be, hbe⟩ : ∃ be, be = w.heap.size := ⟨_, rfl⟩
  rw [← hbe] at hb1 hb2 hb3 hs1
  simp only [← hbe]
  have HX1 := Lib.hid hx1
  have HB1 := Lib.hid hb1
  have HB2 := Lib.hid hb2
  have HB3 := Lib.hid hb3
  have HBE := Lib.hid hbe
  have ce : w1.cell? ⟨be, 0, none⟩ = some (.pointer (some ⟨ge, 0, none⟩)) := hb1.cell 0
  have ct : w1.cell? ⟨be + 1, 0, none⟩ = some (.pointer (some ⟨tg, tk, none⟩)) := hb2.cell 0
  have HNO := Lib.hid (none_any _ x sv nw w1 (HE.out.ext hx1) hnn)
  replace n0 := hx1.cell n0
  replace n5 := hx1.cell n5
  replace n7 := hx1.cell n7
  replace n8 := hx1.cell n8
  have hs1' : be + 3 ≤ w1.heap.size := by omega
  have hbw : w.heap.size ≤ be := by omega
  clear hx1 hb1 hb2 hb3 hs1 hbe
  go_upto_region 2 with (go_at_call 43; refine HNO.out.mono ?_; rintro e w2 ⟨v2, rfl, how2, hx2⟩; obtain ⟨g2, c2, cur2, hv2, hg2, hb2', hlc2, _⟩ := own_words how2 (by omega); subst hv2)
  have hx23 : Ext w2 (w2.alloc (.cells #[.slice (some ⟨g2, 0, none⟩) nw c2] 68)) := (Ext.refl w2).alloc _
  have hbto : Blk (w2.alloc (.cells #[.slice (some ⟨g2, 0, none⟩) nw c2] 68)) w2.heap.size 68 #[.slice (some ⟨g2, 0, none⟩) nw c2] := Blk.new w2 _ _
  have hs3 : w2.heap.size < (w2.alloc (.cells #[.slice (some ⟨g2, 0, none⟩) nw c2] 68)).heap.size := by rw [World.size_alloc]; omega
  generalize w2.alloc (.cells #[.slice (some ⟨g2, 0, none⟩) nw c2] 68) = w3 at *
  have hg2l := hb2'.lt
  generalize w2.heap.size = bto at *
  have hx13 : Ext w1 w3 := hx2.trans hx23
  have HX3 := Lib.hid (HX1.out.trans hx13)
  have HX13 := Lib.hid hx13
  have HO3 := Lib.hid (how2.ext hx23)
  have HBT := Lib.hid hbto
  replace n0 := hx13.cell n0
  replace n5 := hx13.cell n5
  replace n7 := hx13.cell n7
  replace n8 := hx13.cell n8
  replace ce := hx13.cell ce
  replace ct := hx13.cell ct
  have cb : w3.cell? ⟨be + 1 + 1, 0, none⟩ = some (.bool back) := hx13.cell (HB3.out.cell 0)
  have cto : w3.cell? ⟨bto, 0, none⟩ = some (.slice (some ⟨g2, 0, none⟩) nw c2) := hbto.cell 0
  have hs13 := hx13.size
  clear hx2 hx23 hbto hb2' how2 hx13 HNO HB3 HB1 HB2
  -- what the row of 'to' is apart from
  have HKE := Lib.hid (fun W (hk : Keeps (fun k => (Value.slice (some ⟨g2, 0, none⟩) nw c2).ownBlock = some k) w3 W) => (HX3.out.keeps hk (fun i h1 h2 => by have := own_at h2; omega) : Ext w W))
  have HKC := Lib.hid (fun W (p : Addr) v (hk : Keeps (fun k => (Value.slice (some ⟨g2, 0, none⟩) nw c2).ownBlock = some k) w3 W) (h : w3.cell? p = some v) (hne : p.block ≠ g2) => (cell_keeps h hk (fun h2 => hne (own_at h2)) : W.cell? p = some v))
  rcases hcase with ⟨hk, hn⟩ | ⟨hk, hn⟩ | ⟨hk, hn⟩ | ⟨hk, hn⟩ | ⟨hk, hn⟩ | ⟨hk, hn⟩ | ⟨hk, hn, hn1, hn2⟩ | ⟨hk, hn, hn1, hn2, hn3, hn4⟩
  · -- nothing
    have HF := Lib.hid (img_none (s := s) (m := m) (subs := subs) hk back HP.out)
    rw [hk] at n0
    clear hk
    go_wp2
    go_ret
    exact ⟨_, rfl, HX3.out, by rw [HF.out]; exact HRD.out.ext HX3.out, .inl rfl⟩
  · -- bytes
    have HF := Lib.hid (acc_byte (s := s) (m := m) (subs := subs) hk back p)
    rw [hk] at n0
    clear hk
    go_upto_region 5 with fail
    have hx34 : Ext w3 (w3.alloc (.cells #[.int .i64 1] 3)) := (Ext.refl w3).alloc _
    have hbs : Blk (w3.alloc (.cells #[.int .i64 1] 3)) w3.heap.size 3 #[.int .i64 1] := Blk.new w3 _ _
    have hs4 : w3.heap.size < (w3.alloc (.cells #[.int .i64 1] 3)).heap.size := by rw [World.size_alloc]; omega
    generalize w3.alloc (.cells #[.int .i64 1] 3) = w4 at *
    generalize hbz : w3.heap.size = bs at *
    have HBZ := Lib.hid hbz
    clear hbz
    have HX34 := Lib.hid hx34
    have HBS := Lib.hid hbs
    replace ce := hx34.cell ce
    replace ct := hx34.cell ct
    replace cb := hx34.cell cb
    replace cto := hx34.cell cto
    clear hx34
    have cs1 : w4.cell? ⟨bs, 0, none⟩ = some (.int .i64 1) := hbs.cell 0
    have fs1 := hbs.frozen 0
    clear hbs
    go_cut [21] (fun v wx => v = .bool back ∧ w4 = wx)
    case first =>
      go_wp2
      go_meet
      case rel => exact ⟨rfl, rfl⟩
    obtain ⟨rfl, rfl⟩ := hcut
    go_step
    go_cut [21] (fun _ wx => wx.cell? ⟨bs, 0, none⟩ = some (.int .i64 (if back then -1 else 1)) ∧ Keeps (· = bs) w4 wx)
    case first =>
      cases back with
      | true =>
        go_wp2
        go_meet
        case rel =>
          refine ⟨?_, (Keeps.refl (· = bs) w4).setCell (p := ⟨bs, 0, none⟩) (.inr rfl) _⟩
          have := (HBS.out.set 0 (.int .i64 (-1))).cell 0
          simpa using this
      | false =>
        go_wp2
        go_meet
        case rel => exact ⟨cs1, Keeps.refl _ _⟩
    obtain ⟨cs5, hk5⟩ := hcut
    obtain ⟨w5, hw5⟩ : ∃ w, w = wc := ⟨_, rfl⟩
    subst hw5
    have hs5 := hk5.size
    have hne : ∀ (a : Nat), a < bs → ¬ a = bs := fun a h => by omega
    replace ce := cell_keeps ce hk5 (hne _ (by simp only; omega))
    replace ct := cell_keeps ct hk5 (hne _ (by simp only; omega))
    replace cb := cell_keeps cb hk5 (hne _ (by simp only; omega))
    replace cto := cell_keeps cto hk5 (hne _ (by simp only; omega))
    have hx35 : Ext w3 w5 := HX34.out.keeps hk5 (fun i h1 h2 => by have h3 : i = bs := h2; have := HBZ.out; omega)
    have HX35 := Lib.hid hx35
    have hx05 : Ext w w5 := HX3.out.trans hx35
    have HX5 := Lib.hid hx05
    have HC := Lib.hid (fun (i : Nat) (acc : Pl) (W : World) (hpi : p i = true) (hoW : OwnP W w1.heap.size (.slice (some ⟨g2, 0, none⟩) nw c2) nw acc) (hK : Keeps (fun k => (Value.slice (some ⟨g2, 0, none⟩) nw c2).ownBlock = some k) w5 W) =>
      (leadA_any i back (.pointer (some ⟨ge, 0, none⟩)) x sv nw tg tk h (.slice SA subs.length sc) (.slice (some ⟨g2, 0, none⟩) nw c2) w1.heap.size acc s m (be + 1 + 1) be (be + 1) bto bs W
        (cell_keeps cb hK (fun h2 => by have := own_at h2; simp only at this; omega)) (cell_keeps ce hK (fun h2 => by have := own_at h2; simp only at this; omega)) (cell_keeps ct hK (fun h2 => by have := own_at h2; simp only at this; omega)) (cell_keeps cto hK (fun h2 => by have := own_at h2; simp only at this; omega)) (cell_keeps cs5 hK (fun h2 => by have := own_at h2; simp only at this; omega))
        (HE.out.ext (HX5.out.keeps hK (fun i h1 h2 => by have := own_at h2; omega))) (HS.out.ext (HX5.out.keeps hK (fun i h1 h2 => by have := own_at h2; omega))) (HA.out.ext (HX5.out.keeps hK (fun i h1 h2 => by have := own_at h2; omega))) hoW (HP.out i hpi) hnw hnn hss))
    have HEA := Lib.hid (eachA_any (.slice A nw c) (.slice (some ⟨g2, 0, none⟩) nw c2) w1.heap.size nw s.size p noP (addB s h.set back) (.pointer (some ⟨be + 1 + 1, 0, none⟩)) (.pointer (some ⟨be, 0, none⟩)) (.pointer (some ⟨be + 1, 0, none⟩)) (.pointer (some ⟨bto, 0, none⟩)) (.pointer (some ⟨bs, 0, none⟩)) w5
      (HRD.out.ext hx05) HP.out hnw hnn (fun g hg e => by have := HRL.out g hg; have := own_at e; omega) (HT.out.ext hx05) (by omega) (HO3.out.ext hx35) HC)
    rw [HF.out] at HEA
    clear HC hx35 hx05 hk5
    go_upto_region 8 with (go_at_call 44; refine HEA.out.mono ?_; rintro e w6 ⟨rfl, ho6, hk6⟩)
    have cto6 := cell_keeps cto hk6 (fun h2 => by have := own_at h2; simp only at this; omega)
    have hx6 : Ext w w6 := HX5.out.keeps hk6 (fun i h1 h2 => by have := own_at h2; omega)
    clear ce ct cb cto cs5 hk6 fs1 cs1
    go_wp2
    go_ret
    exact ⟨_, rfl, hx6, RdP.of_own ho6, .inr (fun g hg => by (injection hg with hg); have hg' : g2 = g := hg; omega)⟩
  · -- a beginning
    have HF := Lib.hid (acc_mark (s := s) (m := m) (subs := subs) (k := 1) (.inl ⟨hk, rfl⟩) back HP.out)
    rw [hk] at n0
    clear hk
    go_upto_region 12 with fail
    have hx34 : Ext w3 (w3.alloc (.cells #[.int .i64 1] 3)) := (Ext.refl w3).alloc _
    have hbs : Blk (w3.alloc (.cells #[.int .i64 1] 3)) w3.heap.size 3 #[.int .i64 1] := Blk.new w3 _ _
    have hs4 : w3.heap.size < (w3.alloc (.cells #[.int .i64 1] 3)).heap.size := by rw [World.size_alloc]; omega
    generalize w3.alloc (.cells #[.int .i64 1] 3) = w4 at *
    generalize hbz : w3.heap.size = bs at *
    have HBZ := Lib.hid hbz
    clear hbz
    replace n0 := hx34.cell n0
    replace ce := hx34.cell ce
    replace ct := hx34.cell ct
    replace cto := hx34.cell cto
    have cs4 : w4.cell? ⟨bs, 0, none⟩ = some (.int .i64 1) := hbs.cell 0
    have fs4 := hbs.frozen 0
    go_upto_region 14 with fail
    have cs5 := cs4
    have hx35 := hx34
    have hs5 := hs4
    generalize w4 = w5 at *
    have hx05 : Ext w w5 := HX3.out.trans hx35
    have HX5 := Lib.hid hx05
    have HC := Lib.hid (fun (i : Nat) (acc : Pl) (W : World) (hpi : p i = true) (hoW : OwnP W w1.heap.size (.slice (some ⟨g2, 0, none⟩) nw c2) nw acc) (hK : Keeps (fun k => (Value.slice (some ⟨g2, 0, none⟩) nw c2).ownBlock = some k) w5 W) =>
      (leadB_any i (.pointer (some ⟨ge, 0, none⟩)) x sv nw (.slice (some ⟨g2, 0, none⟩) nw c2) w1.heap.size acc s m 1 be bs bto W
        (cell_keeps ce hK (fun h2 => by have := own_at h2; simp only at this; omega)) (cell_keeps cs5 hK (fun h2 => by have := own_at h2; simp only at this; omega)) (cell_keeps cto hK (fun h2 => by have := own_at h2; simp only at this; omega))
        (HE.out.ext (HX5.out.keeps hK (fun i h1 h2 => by have := own_at h2; omega))) (HS.out.ext (HX5.out.keeps hK (fun i h1 h2 => by have := own_at h2; omega))) hoW (by have h1 := HP.out i hpi; have : i / 64 ≤ s.size / 64 := Nat.div_le_div_right h1; omega) hnn hm))
    have HEA := Lib.hid (eachB_any (.slice A nw c) (.slice (some ⟨g2, 0, none⟩) nw c2) w1.heap.size nw s.size p noP (addM m 1) (.pointer (some ⟨be, 0, none⟩)) (.pointer (some ⟨bs, 0, none⟩)) (.pointer (some ⟨bto, 0, none⟩)) w5
      (HRD.out.ext hx05) HP.out hnw hnn (fun g hg e => by have := HRL.out g hg; have := own_at e; omega) (HT.out.ext hx05) (by omega) (HO3.out.ext hx35) HC)
    rw [HF.out] at HEA
    clear HC hx35 hx05 hx34 hbs
    go_upto_region 15 with (go_at_call 44; refine HEA.out.mono ?_; rintro e w6 ⟨rfl, ho6, hk6⟩)
    have cto6 := cell_keeps cto hk6 (fun h2 => by have := own_at h2; simp only at this; omega)
    have hx6 : Ext w w6 := HX5.out.keeps hk6 (fun i h1 h2 => by have := own_at h2; omega)
    clear ce cto cs5 hk6
    go_wp2
    go_ret
    exact ⟨_, rfl, hx6, RdP.of_own ho6, .inr (fun g hg => by (injection hg with hg); have hg' : g2 = g := hg; omega)⟩
  · -- an end
    have HF := Lib.hid (acc_mark (s := s) (m := m) (subs := subs) (k := 2) (.inr ⟨hk, rfl⟩) back HP.out)
    rw [hk] at n0
    clear hk
    go_upto_region 12 with fail
    have hx34 : Ext w3 (w3.alloc (.cells #[.int .i64 1] 3)) := (Ext.refl w3).alloc _
    have hbs : Blk (w3.alloc (.cells #[.int .i64 1] 3)) w3.heap.size 3 #[.int .i64 1] := Blk.new w3 _ _
    have hs4 : w3.heap.size < (w3.alloc (.cells #[.int .i64 1] 3)).heap.size := by rw [World.size_alloc]; omega
    generalize w3.alloc (.cells #[.int .i64 1] 3) = w4 at *
    generalize hbz : w3.heap.size = bs at *
    have HBZ := Lib.hid hbz
    clear hbz
    replace n0 := hx34.cell n0
    replace ce := hx34.cell ce
    replace ct := hx34.cell ct
    replace cto := hx34.cell cto
    have cs4 : w4.cell? ⟨bs, 0, none⟩ = some (.int .i64 1) := hbs.cell 0
    have fs4 := hbs.frozen 0
    go_upto_region 14 with fail
    have hk5 : Keeps (· = bs) w4 (w4.setCell ⟨bs, 0, none⟩ (.int .i64 2)) := (Keeps.refl (· = bs) w4).setCell (p := ⟨bs, 0, none⟩) (.inr rfl) _
    have cs5 : (w4.setCell ⟨bs, 0, none⟩ (.int .i64 2)).cell? ⟨bs, 0, none⟩ = some (.int .i64 2) := by
      have := (hbs.set 0 (.int .i64 2)).cell 0
      simpa using this
    have hx35 : Ext w3 (w4.setCell ⟨bs, 0, none⟩ (.int .i64 2)) := hx34.keeps hk5 (fun i h1 h2 => by have h3 : i = bs := h2; have := HBZ.out; omega)
    have hs5 : bs < (w4.setCell ⟨bs, 0, none⟩ (.int .i64 2)).heap.size := by rw [World.size_setCell]; exact hs4
    have hne : ∀ (a : Nat), a < bs → ¬ a = bs := fun a h => by omega
    replace ce := cell_keeps ce hk5 (hne _ (by simp only; omega))
    replace cto := cell_keeps cto hk5 (hne _ (by simp only; omega))
    clear hk5 cs4 fs4 n0 ct
    generalize w4.setCell ⟨bs, 0, none⟩ (.int .i64 2) = w5 at *
    have hx05 : Ext w w5 := HX3.out.trans hx35
    have HX5 := Lib.hid hx05
    have HC := Lib.hid (fun (i : Nat) (acc : Pl) (W : World) (hpi : p i = true) (hoW : OwnP W w1.heap.size (.slice (some ⟨g2, 0, none⟩) nw c2) nw acc) (hK : Keeps (fun k => (Value.slice (some ⟨g2, 0, none⟩) nw c2).ownBlock = some k) w5 W) =>
      (leadB_any i (.pointer (some ⟨ge, 0, none⟩)) x sv nw (.slice (some ⟨g2, 0, none⟩) nw c2) w1.heap.size acc s m 2 be bs bto W
        (cell_keeps ce hK (fun h2 => by have := own_at h2; simp only at this; omega)) (cell_keeps cs5 hK (fun h2 => by have := own_at h2; simp only at this; omega)) (cell_keeps cto hK (fun h2 => by have := own_at h2; simp only at this; omega))
        (HE.out.ext (HX5.out.keeps hK (fun i h1 h2 => by have := own_at h2; omega))) (HS.out.ext (HX5.out.keeps hK (fun i h1 h2 => by have := own_at h2; omega))) hoW (by have h1 := HP.out i hpi; have : i / 64 ≤ s.size / 64 := Nat.div_le_div_right h1; omega) hnn hm))
    have HEA := Lib.hid (eachB_any (.slice A nw c) (.slice (some ⟨g2, 0, none⟩) nw c2) w1.heap.size nw s.size p noP (addM m 2) (.pointer (some ⟨be, 0, none⟩)) (.pointer (some ⟨bs, 0, none⟩)) (.pointer (some ⟨bto, 0, none⟩)) w5
      (HRD.out.ext hx05) HP.out hnw hnn (fun g hg e => by have := HRL.out g hg; have := own_at e; omega) (HT.out.ext hx05) (by omega) (HO3.out.ext hx35) HC)
    rw [HF.out] at HEA
    clear HC hx35 hx05 hx34 hbs
    go_upto_region 15 with (go_at_call 44; refine HEA.out.mono ?_; rintro e w6 ⟨rfl, ho6, hk6⟩)
    have cto6 := cell_keeps cto hk6 (fun h2 => by have := own_at h2; simp only at this; omega)
    have hx6 : Ext w w6 := HX5.out.keeps hk6 (fun i h1 h2 => by have := own_at h2; omega)
    clear ce cto cs5 hk6
    go_wp2
    go_ret
    exact ⟨_, rfl, hx6, RdP.of_own ho6, .inr (fun g hg => by (injection hg with hg); have hg' : g2 = g := hg; omega)⟩
  · -- one behind the other
    have HF := Lib.hid (dir_congr back (tk_seq (L := lfM s m) h subs hk))
    have HPA := Lib.hid (fun W (hW : Ext w W) => parts_lead (x := x) (m := m) subs HIH.out (lfM_ok s m) (.pointer (some ⟨ge, 0, none⟩)) sv (.slice A nw c) SA sc back p W HSUB.out (HE.out.ext hW) (HS.out.ext hW) (NdsOk.ext hW subs SA 0 HNS.out) (HT.out.ext hW) (HRD.out.ext hW) HP.out hll)
    rw [hk] at n0
    clear hk
    go_upto_region 27 with fail
    have ce' := cell_plus ce
    have ct' := cell_plus ct
    have cb' := cell_plus cb
    have n5' := cell_plus n5
    refine wp_region_plus_tail 7 (by kernel_rfl) (by kernel_rfl) ?_
    simp only [List.take_succ_cons, List.take_zero, List.drop_succ_cons, List.drop_zero]
    iterate 7 (go_big_quiet_step (fail))
    refine wpQuiet_nil ?_
    intro y
    have hx3y := HX3.out.trans (plus_ext w3 y)
    have HPY := Lib.hid (HPA.out _ hx3y)
    rw [← HF.out] at HPY
    have hsy := hx3y.size
    clear ce' ct' cb' n5' ce ct cb cto n0 n5 n7 n8
    go_wp2_with (go_at_call 53; refine HPY.out.mono ?_; rintro e w6 ⟨v6, rfl, hx6, hr6, hfrom6⟩)
    go_ret
    exact ⟨_, rfl, hx3y.trans hx6, hr6, hfrom6.elim .inl (fun h => .inr (fun g hg => Nat.le_trans hsy (h g hg)))⟩
  · -- one of several
    have HF := Lib.hid (dir_congr back (tk_alt (L := lfM s m) h subs hk))
    rw [hk] at n0
    clear hk
    have HSTEP := Lib.hid (fun k (hk : k < subs.length) => alt_step (L := lfM s m) back subs k hk p)
    have HNOP : Hid (img (dirR back (tkA (lfM s m) (subs.take 0))) p = noP) := Lib.hid (by rw [List.take_zero]; exact alt_none back p)
    go_upto_region 18 with fail
    go_loopw [45] (fun iv wr => ∃ k : Nat, k ≤ subs.length ∧ iv = .int .i64 k ∧ OwnP wr w1.heap.size (.slice (some ⟨g2, 0, none⟩) nw c2) nw (img (dirR back (tkA (lfM s m) (subs.take k))) p) ∧ Keeps (fun k => (Value.slice (some ⟨g2, 0, none⟩) nw c2).ownBlock = some k) w3 wr) (fun iv _ => subs.length - (intOf iv).toNat)
    case atStart => exact ⟨0, Nat.zero_le _, rfl, by rw [HNOP.out]; exact HO3.out, Keeps.refl _ _⟩
    case round =>
      obtain ⟨k, hkl, rfl, ho, hK⟩ := hrel
      obtain ⟨w4, hw4⟩ : ∃ w, w = wr := ⟨_, rfl⟩
      subst hw4
      have hx4 : Ext w w4 := HKE.out w4 hK
      have HX4 := Lib.hid hx4
      have HO4 := Lib.hid ho
      have HK4 := Lib.hid hK
      replace ce := HKC.out w4 _ _ hK ce (by simp only; omega)
      replace ct := HKC.out w4 _ _ hK ct (by simp only; omega)
      replace cb := HKC.out w4 _ _ hK cb (by simp only; omega)
      replace cto := HKC.out w4 _ _ hK cto (by simp only; omega)
      have hs34 := hK.size
      by_cases hlt : k < subs.length
      · have q9 : (k : Int) < (subs.length : Int) := by omega
        obtain ⟨g0, o0, sv0, rfl, hat, hok⟩ := HNS.out.get k hlt
        have hat0 : NdAt w g0 (o0 + k * 10) (subs[k]).h sv0 := fun i hi => by have := hat i hi; rwa [Nat.zero_add] at this
        have n5w : w4.cell? ⟨tg, tk + 5, none⟩ = some (.slice (some ⟨g0, o0, none⟩) subs.length sc) := hx4.cell (HA.out 5 (by decide))
        have hst := HSTEP.out k hlt
        have HLK := Lib.hid (fun W (hW : Ext w4 W) => HIH.out subs[k] (List.getElem_mem hlt) (.pointer (some ⟨ge, 0, none⟩)) sv sv0 (.slice A nw c) g0 (o0 + k * 10) back p W (HSUB.out _ (List.getElem_mem hlt)) (HE.out.ext (HX4.out.trans hW)) (HS.out.ext (HX4.out.trans hW)) (hat0.ext (HX4.out.trans hW)) (hok.ext (HX4.out.trans hW)) (HT.out.ext (HX4.out.trans hW)) (HRD.out.ext (HX4.out.trans hW)) HP.out)
        generalize img (dirR back (tkN (lfM s m) subs[k])) p = qk at *
        have HST := Lib.hid hst
        clear n0 n5 n7 n8 hat hat0 hok hst ho hK hx4
        have n5 := n5w
        clear n5w
        go_upto_region 20 with fail
        refine wp_region_predz 48 11 [fun v _ => v = .slice (some ⟨g2, 0, none⟩) nw c2, fun v _ => v = .pointer (some ⟨ge, 0, none⟩), fun v _ => v = .pointer (some ⟨tg, tk, none⟩), fun v _ => v = .pointer (some ⟨tg, tk, none⟩), fun v _ => v = .pointer (some ⟨tg, tk + 5, none⟩), fun v _ => v = .slice (some ⟨g0, o0, none⟩) subs.length sc, fun v _ => v = .int .i64 k, fun v _ => v = .pointer (some ⟨g0, o0 + k * 10, none⟩), fun v _ => v = .slice A nw c, fun v _ => v = .bool back, fun v W => RdP W v nw qk ∧ (v = .slice A nw c ∨ ∀ g, blkOf v = some g → w4.heap.size ≤ g)] (Lasts.nil.cons fun v W W' hx ⟨h1, h2⟩ => ⟨h1.ext hx, h2⟩).is.is.is.is.is.is.is.is.is.is (by kernel_rfl) (by kernel_rfl) (by kernel_rfl) (by kernel_rfl) (by kernel_rfl) (by kernel_rfl) (by kernel_rfl) ?_
        intro T hT
        have r6 : List.range 11 = [0, 1, 2, 3, 4, 5, 6, 7, 8, 9, 10] := rfl
        simp only [spliceT, r6, List.map_cons, List.map_nil, List.take_succ_cons, List.take_zero, List.drop_succ_cons, List.drop_zero, List.cons_append, List.nil_append, Nat.reduceAdd] at hT
        simp only [List.take_succ_cons, List.take_zero, List.drop_succ_cons, List.drop_zero, AllS, Nat.reduceAdd]
        refine ⟨⟨?_, ?_, ?_, ?_, ?_, ?_, ?_, ?_, ?_, ?_, ?_, trivial⟩, ?_⟩
        · intro u W hx hd'
          clear hd'
          rw [hT u]
          have qf := hx.cell cto
          go_wp2
          exact stepQ_mk ⟨Ext.refl _, _, by rw [hT]; simp [updN], rfl⟩
        · intro u W hx hd'
          clear hd'
          rw [hT u]
          have qf := hx.cell ce
          go_wp2
          exact stepQ_mk ⟨Ext.refl _, _, by rw [hT]; simp [updN], rfl⟩
        · intro u W hx hd'
          clear hd'
          rw [hT u]
          have qf := hx.cell ct
          go_wp2
          exact stepQ_mk ⟨Ext.refl _, _, by rw [hT]; simp [updN], rfl⟩
        · intro u W hx hd'
          have t2 : u 2 = _ := hd' 2 (mem_of (by kernel_rfl))
          clear hd'
          rw [hT u, t2]
          go_wp2
          exact stepQ_mk ⟨Ext.refl _, _, by rw [hT]; simp [updN, t2], rfl⟩
        · intro u W hx hd'
          have t3 : u 3 = _ := hd' 3 (mem_of (by kernel_rfl))
          clear hd'
          rw [hT u, t3]
          go_wp2
          exact stepQ_mk ⟨Ext.refl _, _, by rw [hT]; simp [updN, t3], rfl⟩
        · intro u W hx hd'
          have t4 : u 4 = _ := hd' 4 (mem_of (by kernel_rfl))
          clear hd'
          rw [hT u, t4]
          have qf := hx.cell n5
          go_wp2
          exact stepQ_mk ⟨Ext.refl _, _, by rw [hT]; simp [updN, t4], rfl⟩
        · intro u W hx hd'
          clear hd'
          rw [hT u]
          go_wp2
          exact stepQ_mk ⟨Ext.refl _, _, by rw [hT]; simp [updN], rfl⟩
        · intro u W hx hd'
          have t5 : u 5 = _ := hd' 5 (mem_of (by kernel_rfl))
          have t6 : u 6 = _ := hd' 6 (mem_of (by kernel_rfl))
          clear hd'
          rw [hT u, t5, t6]
          go_wp2
          exact stepQ_mk ⟨Ext.refl _, _, by rw [hT]; simp [updN, t5, t6], rfl⟩
        · intro u W hx hd'
          clear hd'
          rw [hT u]
          go_wp2
          exact stepQ_mk ⟨Ext.refl _, _, by rw [hT]; simp [updN], rfl⟩
        · intro u W hx hd'
          clear hd'
          rw [hT u]
          have qf := hx.cell cb
          go_wp2
          exact stepQ_mk ⟨Ext.refl _, _, by rw [hT]; simp [updN], rfl⟩
        · intro u W hx hd'
          have t1 : u 1 = _ := hd' 1 (mem_of (by kernel_rfl))
          have t7 : u 7 = _ := hd' 7 (mem_of (by kernel_rfl))
          have t8 : u 8 = _ := hd' 8 (mem_of (by kernel_rfl))
          have t9 : u 9 = _ := hd' 9 (mem_of (by kernel_rfl))
          clear hd'
          rw [hT u, t1, t7, t8, t9]
          have HLW := Lib.hid (HLK.out W hx)
          have hsW := hx.size
          go_wp2_with (go_at_call 25; refine HLW.out.mono ?_; rintro e w4 ⟨v4, rfl, hx4, hr4, hfrom4⟩)
          exact stepQ_mk ⟨hx4, _, by rw [hT]; simp [updN, t1, t7, t8, t9], ⟨hr4, hfrom4.elim .inl (fun h => .inr (fun g hg => Nat.le_trans hsW (h g hg)))⟩⟩
        · intro u W hx hp
          have t0 : u 0 = _ := hp 0 (by omega)
          obtain ⟨hr4, hfrom4⟩ : RdP W (u 10) nw qk ∧ (u 10 = .slice A nw c ∨ ∀ g, blkOf (u 10) = some g → w4.heap.size ≤ g) := hp 10 (by omega)
          clear hp
          rw [hT u, t0]
          clear hT t0
          generalize u 10 = v10 at *
          obtain ⟨A10, c10, hv10, _⟩ := hr4.shape
          subst hv10
          have HJ := Lib.hid (joinP_any (.slice (some ⟨g2, 0, none⟩) nw c2) (.slice A10 nw c10) w1.heap.size nw _ qk W (HO4.out.ext hx) hr4 (fun g hg e => by
            have e2 := own_at e
            rcases hfrom4 with h | h
            · rw [h] at hg
              have := HRL.out g hg
              omega
            · have := h g hg
              omega) (hr4.lt (by omega)) hnn (by omega))
          rw [← HST.out] at HJ
          have HKW := Lib.hid (HK4.out.trans (Keeps.of_ext (F := fun k => (Value.slice (some ⟨g2, 0, none⟩) nw c2).ownBlock = some k) hx) (fun _ _ h => h))
          clear hx hr4 hfrom4 ce ct cb cto n5
          go_wp2_with (go_at_call 51; refine HJ.out.mono ?_; rintro e w5 ⟨f5, rfl, _, ho5, hk5⟩)
          go_roundw
          case rel => exact ⟨k + 1, hlt, by go_num, ho5, HKW.out.trans hk5 (fun _ _ h => h)⟩
          case measure => simp [intOf]; omega
      · have q9 : ¬ (k : Int) < (subs.length : Int) := by omega
        obtain rfl : k = subs.length := by omega
        rw [List.take_of_length_le (Nat.le_refl _), ← HF.out] at ho
        have HR := Lib.hid (RdP.of_own ho)
        clear ho hK hx4 ce ct cb
        go_wp2
        go_ret
        exact ⟨_, rfl, HX4.out, HR.out, .inr (fun g hg => by (injection hg with hg); have hg' : g2 = g := hg; omega)⟩
  · -- a group
    have HF := Lib.hid (dir_congr back (fun a b => by obtain ⟨s0, rfl⟩ := List.length_eq_one_iff.1 hn; rw [tkS_one]; exact tk_group (L := lfM s m) h s0 hk a b : ∀ a b, tkN (lfM s m) (.mk h subs) a b ↔ tkS (lfM s m) subs a b))
    have HPA := Lib.hid (fun W (hW : Ext w W) => parts_lead (x := x) (m := m) subs HIH.out (lfM_ok s m) (.pointer (some ⟨ge, 0, none⟩)) sv (.slice A nw c) SA sc back p W HSUB.out (HE.out.ext hW) (HS.out.ext hW) (NdsOk.ext hW subs SA 0 HNS.out) (HT.out.ext hW) (HRD.out.ext hW) HP.out hll)
    rw [hk] at n0
    clear hk hn hn1 hn2
    go_upto_region 27 with fail
    have ce' := cell_plus ce
    have ct' := cell_plus ct
    have cb' := cell_plus cb
    have n5' := cell_plus n5
    refine wp_region_plus_tail 7 (by kernel_rfl) (by kernel_rfl) ?_
    simp only [List.take_succ_cons, List.take_zero, List.drop_succ_cons, List.drop_zero]
    iterate 7 (go_big_quiet_step (fail))
    refine wpQuiet_nil ?_
    intro y
    have hx3y := HX3.out.trans (plus_ext w3 y)
    have HPY := Lib.hid (HPA.out _ hx3y)
    rw [← HF.out] at HPY
    have hsy := hx3y.size
    clear ce' ct' cb' n5' ce ct cb cto n0 n5 n7 n8
    go_wp2_with (go_at_call 53; refine HPY.out.mono ?_; rintro e w6 ⟨v6, rfl, hx6, hr6, hfrom6⟩)
    go_ret
    exact ⟨_, rfl, hx3y.trans hx6, hr6, hfrom6.elim .inl (fun h => .inr (fun g hg => Nat.le_trans hsy (h g hg)))⟩
  · -- a repeat
    obtain ⟨s0, rfl⟩ := List.length_eq_one_iff.1 hn
    have HF : Hid (dirR back (tkN (lfM s m) (.mk h [s0])) = rpR (dirR back (tkN (lfM s m) s0)) h.min h.max) := Lib.hid (by rw [dir_congr back (tk_rep (L := lfM s m) h s0 hk), dir_rp])
    obtain ⟨g0, o0, sv0, rfl, hat, hok⟩ := HNS.out.get 0 (by simp)
    have hat0 : NdAt w g0 o0 s0.h sv0 := fun i hi => by have := hat i hi; simpa using this
    have HAT := Lib.hid hat0
    have HOK := Lib.hid hok
    obtain ⟨mn, hmn⟩ := Int.eq_ofNat_of_zero_le hn1
    have hmx : h.max = -1 ∨ (mn : Int) ≤ h.max := by rw [← hmn]; exact HMX.out hk
    rw [hmn] at n7 HF hn2
    have HPA := Lib.hid (fun W (hW : Ext w W) => rounds_lead (x := x) (m := m) s0 (HIH.out s0 (by simp)) (lfM_ok s m) hnw hnn hss (.pointer (some ⟨ge, 0, none⟩)) sv sv0 (.slice A nw c) g0 o0 mn h.max back p W (HSUB.out s0 (by simp)) (HE.out.ext hW) (HS.out.ext hW) (HAT.out.ext hW) (HOK.out.ext hW) (HT.out.ext hW) (HRD.out.ext hW) HP.out (by omega) hmx (by omega))
    rw [hk] at n0
    clear hk hat hat0 hok hmn hmx
    simp only [List.length_cons, List.length_nil] at n5
    go_upto_region 24 with fail
    have ce' := cell_plus ce
    have ct' := cell_plus ct
    have cb' := cell_plus cb
    have n5' := cell_plus n5
    have n7' := cell_plus n7
    have n8' := cell_plus n8
    refine wp_region_plus_tail 16 (by kernel_rfl) (by kernel_rfl) ?_
    simp only [List.take_succ_cons, List.take_zero, List.drop_succ_cons, List.drop_zero]
    iterate 16 (go_big_quiet_step (fail))
    refine wpQuiet_nil ?_
    intro y
    have hx3y := HX3.out.trans (plus_ext w3 y)
    have HPY := Lib.hid (HPA.out _ hx3y)
    rw [← HF.out] at HPY
    have hsy := hx3y.size
    clear ce' ct' cb' n5' n7' n8' ce ct cb cto n0 n5 n7 n8
    go_wp2_with (go_at_call 52; refine HPY.out.mono ?_; rintro e w6 ⟨v6, rfl, hx6, hr6, hfrom6⟩)
    go_ret
    exact ⟨_, rfl, hx3y.trans hx6, hr6, hfrom6.elim .inl (fun h => .inr (fun g hg => Nat.le_trans hsy (h g hg)))⟩
theorem lead_any (hnw : s.size / 64 < nw) (hnn : nw ≤ 100000000) (hss : s.size ≤ 1000000) (hm : m.length ≤ 10000000) : ∀ n : Nd, smallN n → LeadOf x s m (lfM s m) nw n :=
  Nd.ind fun h subs ih hsm => lead_one h subs (fun n hn => ih n hn (smallL_mem hsm.2 n hn)) hnw hnn hss hm (by have := hsm.1; omega)
end

end Go.Proofs.YtgfknlkpdiejgaaGreatDoor

namespace Go.Proofs
open Go.Shelf
def Tryz.lays129_ren : Go.Shelf.Ren := ⟨fun | 129 => 54 | n => n, fun | 53 => 22 | 3 => 3 | 4 => 4 | 46 => 85 | 5 => 5 | 9 => 9 | n => n, fun | n => n⟩
theorem Tryz.lays129 : Go.Proofs.Lays.n129 Tryz.prog Tryz.lays129_ren := {
  mixed := by kernel_rfl
  f129 := Tryz.func54.trans (congrArg some (by kernel_rfl))
  t3 := Tryz.underlying3
  a3 := Tryz.isAgg3
  z3 := Tryz.sizeOf3
  v3 := Tryz.zeroValue3
  t4 := Tryz.underlying4
  a4 := Tryz.isAgg4
  z4 := Tryz.sizeOf4
  v4 := Tryz.zeroValue4
  t5 := Tryz.underlying5
  a5 := Tryz.isAgg5
  z5 := Tryz.sizeOf5
  v5 := Tryz.zeroValue5
  t9 := Tryz.underlying9
  a9 := Tryz.isAgg9
  z9 := Tryz.sizeOf9
  v9 := Tryz.zeroValue9
  t46 := Tryz.underlying85
  a46 := Tryz.isAgg85
  z46 := Tryz.sizeOf85
  v46 := Tryz.zeroValue85
  t53 := Tryz.underlying22
  a53 := Tryz.isAgg22
  z53 := Tryz.sizeOf22
  v53 := Tryz.zeroValue22 }
theorem Tryz.bits_Len64 (x : Int) (w : World) (h0 : 0 ≤ x) (h1 : x ≤ 18446744073709551615) :
    Calls Tryz.prog 54 #[.int .u64 x] w fun e w' => e = .returned (.int .i64 (Lib.bitLen x.toNat)) ∧ w' = w := Any.bits_Len64 Tryz.lays129 x w h0 h1
end Go.Proofs

namespace Go.Proofs.YtgfknlkpdiejgaaGreatDoor
open Go Go.RowKit

/-- The greatest one below n; -1: none. -/
def grP (p : Pl) : Nat → Int
  | 0 => -1
  | n + 1 => if p n = true then n else grP p n
theorem grP_skip {p : Pl} {a : Nat} : ∀ b, a ≤ b → (∀ i, a ≤ i → i < b → p i = false) → grP p b = grP p a
  | 0, h, _ => by rw [show a = 0 by omega]
  | b + 1, h, hp => by
    by_cases e : a = b + 1
    · rw [e]
    · rw [grP, if_neg (by rw [hp b (by omega) (by omega)]; decide)]
      exact grP_skip b (by omega) (fun i h1 h2 => hp i h1 (by omega))
theorem grP_at {p : Pl} {k b : Nat} (hk : p k = true) (hb : k < b) (h : ∀ i, k < i → i < b → p i = false) : grP p b = k := by
  rw [grP_skip (a := k + 1) b hb (fun i h1 h2 => h i (by omega) h2), grP, if_pos hk]
def andP (p q : Pl) : Pl := fun i => p i && q i
def lastV (p q : Pl) (nw : Nat) (least : Int) : Int := if grP (andP p q) (64 * nw) < least then -1 else grP (andP p q) (64 * nw)
theorem top_bit {x : Nat} (h0 : x ≠ 0) (hx : x < 18446744073709551616) : 1 ≤ Lib.bitLen x ∧ Lib.bitLen x ≤ 64 ∧ x.testBit (Lib.bitLen x - 1) = true ∧ ∀ j, Lib.bitLen x ≤ j → x.testBit j = false := by
  obtain ⟨h1, h2, h3⟩ := Lib.bitLenAux_bounds 64 x hx h0
  have e : Lib.bitLen x = Lib.bitLenAux 64 x := rfl
  rw [e]
  generalize Lib.bitLenAux 64 x = l at *
  refine ⟨h1, ?_, ?_, fun j hj => Nat.testBit_lt_two_pow (Nat.lt_of_lt_of_le h3 (Nat.pow_le_pow_right (by decide) hj))⟩
  · refine Nat.le_of_not_lt fun hl => ?_
    have : (2 : Nat) ^ 64 ≤ 2 ^ (l - 1) := Nat.pow_le_pow_right (by decide) (by omega)
    have : (2 : Nat) ^ 64 = 18446744073709551616 := by decide
    omega
  · exact Nat.testBit_of_two_pow_le_and_two_pow_add_one_gt h2 (by rw [show l - 1 + 1 = l by omega]; exact h3)

set_option maxRecDepth 100000 in
set_option maxHeartbeats 8000000 in
theorem last_any (v u : Value) (nw : Nat) (p q : Pl) (least : Int) (w : World) (hv : RdP w v nw p) (hu : RdP w u nw q) (hnw : nw ≤ 1000000) (hl : 0 ≤ least) :
    Calls Tryz.prog 27 #[v, u, .int .i64 least] w fun e w' => e = .returned (.int .i64 (lastV p q nw least)) ∧ Ext w w' := by
  obtain ⟨A, c, rfl, hlc, hcv⟩ := hv
  obtain ⟨D, d, rfl, hld, hcu⟩ := hu
  have HV := Lib.hid hcv
  have HU := Lib.hid hcu
  generalize hr : lastV p q nw least = res
  have HR := Lib.hid hr
  clear hcv hcu hr
  go_enter Tryz.func27, Tryz.ntmps27
  go_wp2
  go_loopw [7] (fun iv wr => ∃ j : Nat, j ≤ nw ∧ iv = .int .i64 ((j : Int) - 1) ∧ Ext w wr ∧ Hid (∀ i, 64 * j ≤ i → i < 64 * nw → andP p q i = false)) (fun iv _ => (intOf iv + 1).toNat)
  case atStart => exact ⟨nw, Nat.le_refl _, by go_num, Ext.refl _, Lib.hid (fun i h1 h2 => by omega)⟩
  case round =>
    obtain ⟨j, hj, rfl, hx, HB⟩ := hrel
    have HX := Lib.hid hx
    obtain ⟨w1, hw1⟩ : ∃ w, w = wr := ⟨_, rfl⟩
    subst hw1
    clear hx
    by_cases h0 : j = 0
    · subst h0
      have HF : Hid (res = -1) := Lib.hid (by
        rw [← HR.out]
        unfold lastV
        rw [grP_skip (a := 0) (64 * nw) (Nat.zero_le _) (fun i _ h2 => HB.out i (by omega) h2), grP, if_pos (by omega)])
      go_wp2
      go_ret
      exact ⟨by rw [HF.out]; rfl, HX.out⟩
    · obtain ⟨k, rfl⟩ : ∃ k, j = k + 1 := ⟨j - 1, by omega⟩
      obtain ⟨gv, ov, hA, cv⟩ := HV.out k (by omega)
      obtain ⟨gu, ou, hD, cu⟩ := HU.out k (by omega)
      subst hA hD
      replace cv := HX.out.cell cv
      replace cu := HX.out.cell cu
      have e1 : ((k + 1 : Nat) : Int) - 1 = (k : Int) := by omega
      rw [e1]
      have han : bits .and .u64 (wd p k : Int) (wd q k : Int) = (wd (andP p q) k : Int) := by
        rw [show (bits .and .u64 (wd p k : Int) (wd q k : Int)) = ((wd p k &&& wd q k : Nat) : Int) from u64_and_nat _ _ (wd_lt p k) (wd_lt q k), wd_and]
        rfl
      have hxl := wd_lt (andP p q) k
      have hbits : ∀ r, r < 64 → (wd (andP p q) k).testBit r = andP p q (64 * k + r) := fun r hr => wd_bit _ _ _ hr
      have HBI := Lib.hid hbits
      have q9 : (0 : Int) ≤ (k : Int) := by omega
      clear e1 hbits
      generalize wd p k = xp at *
      generalize wd q k = xq at *
      generalize wd (andP p q) k = x at *
      go_upto_region 4 with fail
      go_cut [8] (fun v wx => v = .int .u64 x ∧ Ext w1 wx)
      case first =>
        go_region
        all_goals go_wp2
        all_goals go_meet
        all_goals exact ⟨rfl, (Ext.refl w1).drew⟩
      obtain ⟨rfl, hx2⟩ := hcut
      obtain ⟨w2, hw2⟩ : ∃ w, w = wc := ⟨_, rfl⟩
      subst hw2
      have HX2 := Lib.hid (HX.out.trans hx2)
      clear hx2 cv cu han
      by_cases hz : x = 0
      · subst hz
        have HB2 : Hid (∀ i, 64 * k ≤ i → i < 64 * nw → andP p q i = false) := Lib.hid (fun i h1 h2 => by
          rcases Nat.lt_or_ge i (64 * (k + 1)) with h3 | h3
          · have := HBI.out (i - 64 * k) (by omega)
            rw [Nat.zero_testBit, show 64 * k + (i - 64 * k) = i by omega] at this
            exact this.symm
          · exact HB.out i h3 h2)
        clear HBI HB
        go_wp2
        go_roundw
        case rel => exact ⟨k, by omega, by go_num, HX2.out, HB2⟩
        case measure => simp [intOf]
      · have q8 : ((x : Int) != 0) = true := by rw [bne_iff_ne]; omega
        obtain ⟨t1, t2, t3, t4⟩ := top_bit hz hxl
        have HLN := Lib.hid (Tryz.bits_Len64 (x : Int) w2 (by omega) (by omega))
        rw [Int.toNat_natCast] at HLN
        have HG : Hid (grP (andP p q) (64 * nw) = ((64 * k + (Lib.bitLen x - 1) : Nat) : Int)) := Lib.hid (grP_at (by rw [← HBI.out _ (by omega)]; exact t3) (by omega) (fun i h1 h2 => by
          rcases Nat.lt_or_ge i (64 * (k + 1)) with h3 | h3
          · have := HBI.out (i - 64 * k) (by omega)
            rw [t4 (i - 64 * k) (by omega), show 64 * k + (i - 64 * k) = i by omega] at this
            exact this.symm
          · exact HB.out i h3 h2))
        have HRR : Hid (res = if ((64 * k + (Lib.bitLen x - 1) : Nat) : Int) < least then -1 else ((64 * k + (Lib.bitLen x - 1) : Nat) : Int)) := Lib.hid (by rw [← HR.out]; unfold lastV; rw [HG.out])
        clear HG HBI HB t3 t4 hz
        generalize Lib.bitLen x = b at *
        have hn : ((64 * k + (b - 1) : Nat) : Int) = 64 * (k : Int) + (b : Int) - 1 := by omega
        rw [hn] at HRR
        by_cases hlt : 64 * (k : Int) + (b : Int) - 1 < least
        · have HF : Hid (res = -1) := Lib.hid (by rw [HRR.out, if_pos hlt])
          clear HRR hn
          go_wp2_with (go_at_call 54; refine HLN.out.mono ?_; rintro e w3 ⟨rfl, h3⟩; subst h3)
          go_ret
          exact ⟨by rw [HF.out]; rfl, HX2.out⟩
        · have HF : Hid (res = 64 * (k : Int) + (b : Int) - 1) := Lib.hid (by rw [HRR.out, if_neg hlt])
          clear HRR hn
          go_wp2_with (go_at_call 54; refine HLN.out.mono ?_; rintro e w3 ⟨rfl, h3⟩; subst h3)
          go_ret
          exact ⟨by rw [HF.out]; rfl, HX2.out⟩

end Go.Proofs.YtgfknlkpdiejgaaGreatDoor
