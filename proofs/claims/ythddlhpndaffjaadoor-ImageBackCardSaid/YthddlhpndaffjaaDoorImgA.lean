/- image.number as a contract: a number's bytes behind others. Condition: the bytes are the program's own, not too many. -/
import Derived.Test.YthddlhpndaffjaaDoorImgP
import Derived.Test.YthddlhpndaffjaaDoorNodeW
import Derived.ArgAppend
namespace Go.Proofs.YthddlhpndaffjaaDoor
open Go Go.RowKit

def bv (b : UInt8) : Value := .int .u8 b.toNat
def bvs (l : List UInt8) : List Value := l.map bv
theorem bvs_app (a b : List UInt8) : bvs (a ++ b) = bvs a ++ bvs b := List.map_append
theorem bvs_len (l : List UInt8) : (bvs l).length = l.length := List.length_map ..
theorem bv_b8 {n : Nat} (h : n < 256) : bv (b8 n) = .int .u8 n := by unfold bv; rw [b8_nat h]
theorem info_u8 : (Tryd.prog.info? 5).map (fun i => (i.zero, i.size, i.bytes)) = some (some (.int .u8 0), 1, 1) := by kernel_rfl
/-- The bytes l lie in a slice that was made above B. -/
def OwnB (w : World) (B : Nat) (v : Value) (l : List UInt8) : Prop := Own1 w B 5 v (bvs l)
section
variable {ops : Array Oper} {rest : List Oper} {o : Oper} {a : Act} {w : World} {Q : Exit → Act → World → Prop}
theorem OwnB.shape {B : Nat} {v : Value} {l : List UInt8} (h : OwnB w B v l) : ∃ A c, v = .slice A l.length c := by
  obtain ⟨A, c, h1, _⟩ := Own1.shape h
  exact ⟨A, c, by rw [h1, bvs_len]⟩
theorem OwnB.ext {w' : World} {B : Nat} {v : Value} {l : List UInt8} (h : OwnB w B v l) (hx : Ext w w') : OwnB w' B v l := Own1.ext h hx
/-- A list of one byte. -/
theorem wpl_oneB (hgd : o.guard = none) (x : Operand) (ho : o.op = .buildSlice 43 1 #[(0, x)]) (n : Nat) (hx : a.eval x = .int .u8 n)
    (hK : ∀ g w1, Blk w1 g 5 #[.int .u8 n] → Ext w w1 → w.heap.size ≤ g → wpList Tryd.prog ops Q rest (a.put o.dst (.slice (some ⟨g, 0, none⟩) 1 1)) w1) : wpList Tryd.prog ops Q (o :: rest) a w := by
  obtain ⟨i, hi, hz⟩ := Option.map_eq_some_iff.1 info_u8
  have hz1 : i.zero = some (.int .u8 0) := congrArg Prod.fst hz
  have hz2 : i.size = 1 := congrArg (fun p => p.2.1) hz
  refine wpList_buildSlice hgd 43 5 1 _ ho #[.int .u8 n] i _ Tryd.underlying43 hi hz1 (by rw [hz2]; decide) (by rw [hz2]; decide) ?_ (hK _ _ (Blk.new w _ _) ((Ext.refl w).alloc _) (Nat.le_refl _))
  rw [hz2]
  have hf := Great.fill_whole (s := 1) (by decide) [Value.int .u8 n] ((Array.range (1 * 1)).map ((Value.int .u8 0).cells[· % (Value.int .u8 0).cells.size]!)) (fun v hv => by simp only [List.mem_singleton] at hv; subst hv; rfl) (by simp)
  have e : (List.map (fun x => (x.2, x.1)) ([Value.int .u8 n].zipIdx 0)) = (Array.map (fun x => (x.1, a.eval x.2)) #[(0, x)]).toList := by simp [hx]
  rw [e] at hf
  rw [hf]
  simp [Value.cells]
/-- w' is w, and more: of w's blocks only the one that holds v may have turned; v' lies where v lay, or in a new block. -/
structure Grew (w w' : World) (v v' : Value) : Prop where
  keeps : Keeps (fun i => v.ownBlock = some i) w w'
  own : ∀ i, v'.ownBlock = some i → v.ownBlock = some i ∨ w.heap.size ≤ i
theorem Grew.refl (w : World) (v : Value) : Grew w w v v := ⟨Keeps.refl _ _, fun _ h => .inl h⟩
theorem Grew.trans {w1 w2 : World} {v v1 v2 : Value} (h : Grew w w1 v v1) (k : Grew w1 w2 v1 v2) : Grew w w2 v v2 :=
  ⟨h.keeps.trans k.keeps fun i hi hv => by
      rcases h.own i hv with h1 | h1
      · exact h1
      · omega, fun i hi => by
      rcases k.own i hi with h1 | h1
      · exact h.own i h1
      · exact .inr (Nat.le_trans h.keeps.size h1)⟩
theorem Grew.of_ext {w1 : World} (v : Value) (h : Ext w w1) : Grew w w1 v v := ⟨Keeps.of_ext h, fun _ h => .inl h⟩
theorem Grew.of_keep1 {w1 : World} {g : Nat} {v : Value} {w0 : World} (h : Ext w0 w) (hk : Keeps (· = g) w w1) (hg : w0.heap.size ≤ g) : Grew w0 w1 v v := ⟨Keeps.of_ext (h.keep1 hk hg), fun _ h => .inl h⟩
theorem Grew.blk {w1 : World} {v v1 : Value} {g : Nat} {t : TypeId} {cs : Array Value} (h : Grew w w1 v v1) (hb : Blk w g t cs) (hv : v.ownBlock ≠ some g) : Blk w1 g t cs ∧ v1.ownBlock ≠ some g :=
  ⟨hb.keeps h.keeps hv, fun e => by
    rcases h.own g e with h1 | h1
    · exact hv h1
    · have := hb.lt; omega⟩
theorem Grew.ext {w0 w1 : World} {v v1 : Value} {B : Nat} {l : List UInt8} (h : Grew w w1 v v1) (hL : OwnB w B v l) (hx : Ext w0 w) (hB : w0.heap.size ≤ B) : Ext w0 w1 :=
  hx.keeps h.keeps fun i hi e => by have := (Own1.own hL i e).1; omega
theorem OwnB.ne {B g : Nat} {v : Value} {l : List UInt8} {t : TypeId} {cs : Array Value} (h : OwnB w B v l) (hb : Blk w g t cs) (ht : 5 ≠ t) : v.ownBlock ≠ some g := Own1.apartB h hb ht
theorem bvs_one (l : List UInt8) : ∀ u ∈ bvs l, u.oneCell' = true := fun u hu => by
  obtain ⟨b, _, rfl⟩ := List.mem_map.1 hu
  rfl
/-- 'b = append(b, c)' onto the program's own bytes. -/
theorem wpl_appB1 (hgd : o.guard = none) (s x : Operand) (ho : o.op = .call { callee := .builtin .append, args := #[s, x], argTypes := #[43, 43] })
    (B : Nat) (v : Value) (l : List UInt8) (n g c : Nat) (hn : n < 256) (hs : a.eval s = v) (hx : a.eval x = .slice (some ⟨g, 0, none⟩) 1 c) (hL : OwnB w B v l) (hB : B ≤ w.heap.size) (hg : Blk w g 5 #[.int .u8 n]) (hl : l.length ≤ 1000000000000)
    (hK : ∀ v' w1, OwnB w1 B v' (l ++ [b8 n]) → Grew w w1 v v' → wpList Tryd.prog ops Q rest (a.put o.dst v') w1) : wpList Tryd.prog ops Q (o :: rest) a w := by
  refine wpList_appK hgd s x _ ho B 5 _ 1 Tryd.underlying43 info_u8 rfl v (bvs l) (bvs [b8 n]) hs hL (.inr ⟨⟨g, 0, none⟩, c, hx, fun j u hj => ?_⟩) (bvs_one _) (by rw [bvs_len, bvs_len]; simp; omega) (by rw [bvs_len, bvs_len]; simp; omega) hB ?_
  · match j, hj with
    | 0, hj =>
      simp only [bvs, List.map_cons, List.map_nil, List.getElem?_cons_zero, Option.some.injEq, bv_b8 hn] at hj
      subst hj
      show w.cell? ⟨g, 0, none⟩ = _
      rw [hg.cell]; rfl
  · intro v' w' h1 h2 h3 _
    refine hK v' w' (by unfold OwnB; rw [bvs_app]; exact h1) ⟨Keeps.of_grown h2, fun i hi => ?_⟩
    rcases h3 with h3 | h3
    · rw [h3] at hi; exact .inl hi
    · rw [h3] at hi; injection hi with hi; exact .inr (by omega)
/-- 'b = append(b, more...)' onto the program's own bytes. -/
theorem wpl_appBs (hgd : o.guard = none) (s x : Operand) (ho : o.op = .call { callee := .builtin .append, args := #[s, x], argTypes := #[43, 43] })
    (B B' : Nat) (v v2 : Value) (l m : List UInt8) (hs : a.eval s = v) (hx : a.eval x = v2) (hL : OwnB w B v l) (hM : OwnB w B' v2 m) (hB : B ≤ w.heap.size) (hl : l.length ≤ 1000000000000) (hm : m.length ≤ 1000000000000)
    (hK : ∀ v' w1, OwnB w1 B v' (l ++ m) → Grew w w1 v v' → wpList Tryd.prog ops Q rest (a.put o.dst v') w1) : wpList Tryd.prog ops Q (o :: rest) a w := by
  refine wpList_appK hgd s x _ ho B 5 _ 1 Tryd.underlying43 info_u8 rfl v (bvs l) (bvs m) hs hL ?_ (bvs_one _) (by rw [bvs_len, bvs_len]; omega) (by rw [bvs_len, bvs_len]; omega) hB ?_
  · rcases Own1.slice hM with ⟨h1, h2⟩ | ⟨g, cap, cur, h1, _⟩
    · exact .inl ⟨by rw [hx, h1], h2⟩
    · subst h1
      exact .inr ⟨⟨g, 0, none⟩, cap, hx, fun j u hj => by
        have := (Own1.cells hM).2 j u hj
        have ea : (⟨g, 0, none⟩ : Addr).add j = ⟨g, j, none⟩ := by unfold Addr.add; split <;> simp_all
        rwa [ea]⟩
  · intro v' w' h1 h2 h3 _
    refine hK v' w' (by unfold OwnB; rw [bvs_app]; exact h1) ⟨Keeps.of_grown h2, fun i hi => ?_⟩
    rcases h3 with h3 | h3
    · rw [h3] at hi; exact .inl hi
    · rw [h3] at hi; injection hi with hi; exact .inr (by omega)
/-- Bytes in a slice without room, made above B (a constant's). -/
def FullB (w : World) (B : Nat) (v : Value) (l : List UInt8) : Prop := ∃ g fz cs, v = .slice (some ⟨g, 0, none⟩) l.length l.length ∧ B ≤ g ∧ w.heap[g]? = some (.cells cs 5 fz) ∧ ∀ j u, (bvs l)[j]? = some u → w.cell? ⟨g, j, none⟩ = some u
/-- Bytes onto which may be appended. -/
def AppB (w : World) (B : Nat) (v : Value) (l : List UInt8) : Prop := OwnB w B v l ∨ FullB w B v l
theorem AppB.ext {w' : World} {B : Nat} {v : Value} {l : List UInt8} (h : AppB w B v l) (hx : Ext w w') : AppB w' B v l := by
  rcases h with h | ⟨g, fz, cs, h1, h2, h3, h4⟩
  · exact .inl (h.ext hx)
  · exact .inr ⟨g, fz, cs, h1, h2, (Below.block hx g (Array.getElem?_eq_some_iff.1 h3).1).trans h3, fun j u hj => hx.cell (h4 j u hj)⟩
theorem AppB.own {B : Nat} {v : Value} {l : List UInt8} (h : AppB w B v l) : ∀ i, v.ownBlock = some i → B ≤ i := fun i hi => by
  rcases h with h | ⟨g, fz, cs, rfl, h2, _⟩
  · exact (Own1.own h i hi).1
  · simp only [Value.ownBlock, Option.some.injEq] at hi; omega
theorem AppB.ne {B g : Nat} {v : Value} {l : List UInt8} {t : TypeId} {cs : Array Value} (h : AppB w B v l) (hb : Blk w g t cs) (ht : 5 ≠ t) : v.ownBlock ≠ some g := by
  rcases h with h | ⟨g', fz, cs', rfl, _, h3, _⟩
  · exact h.ne hb ht
  · intro e
    simp only [Value.ownBlock, Option.some.injEq] at e
    subst e
    unfold Blk at hb
    rw [h3] at hb
    injection hb with hb
    injection hb with _ hb
    exact ht hb
theorem Grew.extA {w0 w1 : World} {v v1 : Value} {B : Nat} {l : List UInt8} (h : Grew w w1 v v1) (hL : AppB w B v l) (hx : Ext w0 w) (hB : w0.heap.size ≤ B) : Ext w0 w1 :=
  hx.keeps h.keeps fun i hi e => by have := hL.own i e; omega
theorem wpl_appA (hgd : o.guard = none) (s x : Operand) (ho : o.op = .call { callee := .builtin .append, args := #[s, x], argTypes := #[43, 43] })
    (B : Nat) (v : Value) (l : List UInt8) (n g c : Nat) (hn : n < 256) (hs : a.eval s = v) (hx : a.eval x = .slice (some ⟨g, 0, none⟩) 1 c) (hL : AppB w B v l) (hB : B ≤ w.heap.size) (hg : Blk w g 5 #[.int .u8 n]) (hl : l.length ≤ 1000000000000)
    (hK : ∀ v' w1, OwnB w1 B v' (l ++ [b8 n]) → Grew w w1 v v' → wpList Tryd.prog ops Q rest (a.put o.dst v') w1) : wpList Tryd.prog ops Q (o :: rest) a w := by
  rcases hL with hL | ⟨g', fz, cs, rfl, h2, h3, h4⟩
  · exact wpl_appB1 hgd s x ho B v l n g c hn hs hx hL hB hg hl hK
  · obtain ⟨i, hi0, hz0, hz1, hz2⟩ := info_parts info_u8
    refine wpList_append_grows w hgd s x _ ho 5 i _ 1 1 Tryd.underlying43 hi0 hz0 hz1 hz2 rfl (by omega) (some ⟨g', 0, none⟩) l.length l.length (bvs l) hs (fun e => by cases e) (by rw [bvs_len]; omega) (fun b hb j u hj => ?_) ⟨g, 0, none⟩ 1 c (bvs [b8 n]) hx rfl (fun j u hj => ?_) (bvs_one _) (by omega) (by simp only [maxLen]; omega) (by omega) ?_
    · obtain rfl := Option.some.inj hb
      have ea : (⟨g', 0, none⟩ : Addr).add j = ⟨g', j, none⟩ := by unfold Addr.add; split <;> simp_all
      rw [ea]
      exact h4 j u hj
    · match j, hj with
      | 0, hj =>
        simp only [bvs, List.map_cons, List.map_nil, List.getElem?_cons_zero, Option.some.injEq, bv_b8 hn] at hj
        subst hj
        show w.cell? ⟨g, 0, none⟩ = _
        rw [hg.cell]; rfl
    · intro v' w' h5 h6
      have h7 : OwnB w' w.heap.size v' (l ++ [b8 n]) := by
        unfold OwnB Own1
        rw [bvs_app, List.length_append, bvs_len, bvs_len]
        exact h5
      exact hK v' w' (Own1.mono h7 hB) ⟨Keeps.of_grown h6 |>.mono (fun _ _ e => by cases e), fun i hi => .inr (Own1.own h7 i hi).1⟩
end

/-- What a call answers that lays bytes behind others. -/
def RetG (w : World) (B : Nat) (v : Value) (l : List UInt8) (r : Ending) (w' : World) : Prop := ∃ v', r = .returned v' ∧ OwnB w' B v' l ∧ Grew w w' v v'
theorem i64_or128 (y : Nat) (h : y < 128) : bits .or .i64 ((y : Nat) : Int) 128 = ((128 + y : Nat) : Int) := by
  have hc : bits .or .i64 ((y : Nat) : Int) 128 = bits .or .i64 128 ((y : Nat) : Int) := by simp only [bits, BitVec.or_comm]
  rw [hc, bits_join .i64 63 (by decide) (fun n h0 h1 => by rw [IntKind.wrap_i64]; omega) 7 128 (y : Int) (by decide) (by decide) (by decide) (by omega) (by omega) (by omega)]
  omega

set_option maxRecDepth 100000 in
set_option maxHeartbeats 4000000 in
theorem number_any (n : Nat) (v : Value) (l : List UInt8) (B : Nat) (w : World) (hL : OwnB w B v l) (hB : B ≤ w.heap.size) (hn : n < 1000000) (hl : l.length ≤ 100000000) :
    Calls Tryd.prog 82 #[v, .int .i64 n] w (RetG w B v (l ++ numB n)) := by
  go_enter Tryd.func82, Tryd.ntmps82
  have HL0 := Lib.hid (show l ++ numB n = l ++ [] ++ numB n by simp)
  go_wp2
  go_loopw [0, 1] (fun v' k wr => ∃ (m : Nat) (p : List UInt8), k = .int .i64 m ∧ m < 1000000 ∧ p.length ≤ 1000000 - m ∧ Hid (l ++ numB n = l ++ p ++ numB m) ∧ OwnB wr B v' (l ++ p) ∧ Grew w wr v v') (fun _ k _ => (intOf k).toNat)
  case atStart => exact ⟨n, [], rfl, hn, by simp, HL0, by simpa using hL, Grew.refl _ _⟩
  case round =>
    clear hL HL0
    obtain ⟨m, p, rfl, hm, hp, HP, hL, hx⟩ := hrel
    have hBr : B ≤ wr.heap.size := Nat.le_trans hB hx.keeps.size
    by_cases h1 : 127 < m
    · have q1 : bits .and .i64 (m : Int) 127 = (m : Int) % 128 := i64_and127 _
      have q2 : bits .or .i64 ((m : Int) % 128) 128 = ((128 + m % 128 : Nat) : Int) := i64_or128 (m % 128) (Nat.mod_lt _ (by omega))
      have d1 : (127 : Int) < (m : Int) := by omega
      have hlt : 128 + m % 128 < 256 := by omega
      have hdm : m / 128 < m := by omega
      have HQ := Lib.hid (numB_big (show 128 ≤ m by omega))
      have q3 : ((128 + m % 128 : Nat) : Int) % 256 = ((128 + m % 128 : Nat) : Int) := by omega
      generalize 128 + m % 128 = q at *
      go_wp2_with (first
        | (refine wpl_oneB rfl _ rfl q rfl ?_; intro g6 w6 hg6 hx6 e6)
        | (refine wpl_appB1 rfl _ _ rfl B u0 (l ++ p) q g6 1 hlt rfl rfl (hL.ext hx6) (Nat.le_trans hBr hx6.size) hg6 (by rw [List.length_append]; omega) ?_; intro v7 w7 hL7 hx7))
      have hx8 := (hx.trans (Grew.of_ext _ hx6)).trans hx7
      clear hL hx6 hg6 e6 hx7 hx q1 q2 q3
      go_roundw
      case rel => exact ⟨m / 128, p ++ [b8 q], by go_num, by omega, by simp only [List.length_append, List.length_singleton]; omega, Lib.hid (by rw [HP.out, HQ.out]; simp), by rw [← List.append_assoc]; exact hL7, hx8⟩
      case measure => simp [intOf]; omega
    · have hm2 : m < 128 := by omega
      have HN := Lib.hid (numB_small hm2)
      clear h1
      have d1 : ¬ (127 : Int) < (m : Int) := by omega
      go_wp2_with (first
        | (refine wpl_oneB rfl _ rfl m rfl ?_; intro g6 w6 hg6 hx6 e6)
        | (refine wpl_appB1 rfl _ _ rfl B u0 (l ++ p) m g6 1 (by omega) rfl rfl (hL.ext hx6) (Nat.le_trans hBr hx6.size) hg6 (by rw [List.length_append]; omega) ?_; intro v7 w7 hL7 hx7))
      go_ret
      exact ⟨v7, rfl, by rw [HP.out, HN.out]; exact hL7, (hx.trans (Grew.of_ext _ hx6)).trans hx7⟩

end Go.Proofs.YthddlhpndaffjaaDoor
