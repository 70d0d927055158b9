/- Aids for the walks of layer 27's statements: a string's bytes as new memory; rows of strings appended; a piece copied. No condition. -/
import Derived.Test.YtfgocamajfipmaaDoorLLives
namespace Go.Proofs.YtfgocamajfipmaaDoor
open Go.RowKit

/-- The world behind '[]byte(s)', and the new slice's capacity. -/
def byC (w : World) (s : ByteArray) : Nat := grownCap w s.size 0 5
def byW (w : World) (s : ByteArray) : World := w.drew.alloc (.cells (bytesRow s (byC w s)) 5 ((bytesRow s (byC w s)).size, (bytesRow s (byC w s)).size + 1))
theorem conv_bytes (w : World) (s : ByteArray) : (convert 9 28 (.string s)).run Tryd.prog w = .ok (.slice (some ⟨w.heap.size, 0, none⟩) s.size (byC w s)) (byW w s) :=
  run_bytes_of_string w 9 28 5 s Tryd.underlying9 Tryd.underlying28 Tryd.underlying5
theorem byW_ext (w : World) (s : ByteArray) : Ext w (byW w s) := ((Ext.refl w).drew).alloc _
theorem byC_ge (w : World) (s : ByteArray) : s.size ≤ byC w s := grownCap_ge _ _ _ _
theorem byW_rd (w : World) (s : ByteArray) : RdA (byW w s) ⟨w.heap.size, 0, none⟩ s.data.toList := fun j hj => by
  have hj' : j < s.data.size := by simpa using hj
  have ea : (⟨w.heap.size, 0, none⟩ : Addr).add j = ⟨w.heap.size, j, none⟩ := by unfold Addr.add; split <;> simp_all
  rw [ea]
  unfold byW
  have := World.cell?_alloc_mark w.drew (bytesRow s (byC w s)) 5 ((bytesRow s (byC w s)).size, (bytesRow s (byC w s)).size + 1) j
  have e : w.drew.heap.size = w.heap.size := rfl
  rw [e] at this
  rw [this]
  unfold bytesRow
  have h1 : j < (s.data.map (fun b => Value.int .u8 b.toNat)).size := by simpa using hj
  rw [Array.getElem?_append_left h1, List.getD_eq_getElem?_getD, List.getElem?_eq_getElem hj, Array.getElem?_map, Array.getElem?_eq_getElem hj']
  rfl

theorem Own1.news {w : World} {B : Nat} {e : TypeId} {v : Value} {xs : List Value} (h : Own1 w B e v xs) : (v = .slice none 0 0 ∧ xs = []) ∨ ∃ ad c, v = .slice (some ad) xs.length c ∧ ∀ j u, xs[j]? = some u → w.cell? (ad.add j) = some u := by
  rcases h.slice with h0 | ⟨g, cap, cur, rfl, _⟩
  · exact .inl h0
  · refine .inr ⟨⟨g, 0, none⟩, cap, rfl, fun j u hu => ?_⟩
    have ea : (⟨g, 0, none⟩ : Addr).add j = ⟨g, j, none⟩ := by unfold Addr.add; split <;> simp_all
    rw [ea]
    exact h.cells.2 j u hu
/-- 'one = append(one, l...)' of two rows of strings of the program's own. -/
theorem wpList_appT {w : World} {ops : Array Oper} {rest : List Oper} {o : Oper} {a : Act} {Q : Exit → Act → World → Prop} (hgd : o.guard = none) (s x : Operand)
    (ho : o.op = .call { callee := .builtin .append, args := #[s, x], argTypes := #[27, 27] })
    (B : Nat) (ov lv : Value) (xs ys : List (List UInt8)) (hs : a.eval s = ov) (hx : a.eval x = lv) (hown : Own1 w B 9 ov (xs.map strV)) (B' : Nat) (hl : Own1 w B' 9 lv (ys.map strV))
    (hb : xs.length + ys.length ≤ 1000000000000) (hbase : B ≤ w.heap.size)
    (h : ∀ v' w', Own1 w' B 9 v' ((xs ++ ys).map strV) → Keeps (fun k => ov.ownBlock = some k) w w' → (v'.ownBlock = ov.ownBlock ∨ v'.ownBlock = some w.heap.size) → wpList Tryd.prog ops Q rest (a.put o.dst v') w') : wpList Tryd.prog ops Q (o :: rest) a w := by
  refine wpList_appK hgd s x 27 ho B 9 (.string ⟨#[]⟩) 16 Tryd.underlying27 info_str rfl ov (xs.map strV) (ys.map strV) hs hown (by rw [hx]; exact hl.news) (strV_one ys) (by simp; omega) (by simp; omega) hbase ?_
  intro v' w' h1 h2 h3 _
  rw [List.map_append] at h
  exact h v' w' h1 ((Keeps.refl _ w).grown h2 (fun k hk => .inr hk)) h3
/-- 'append([]byte{}, p...)': the piece in new memory. -/
theorem wpList_appP {w : World} {ops : Array Oper} {rest : List Oper} {o : Oper} {a : Act} {Q : Exit → Act → World → Prop} (hgd : o.guard = none) (s x : Operand)
    (ho : o.op = .call { callee := .builtin .append, args := #[s, x], argTypes := #[28, 28] })
    (pv : Value) (b : List UInt8) (hs : a.eval s = .slice (some ⟨w.heap.size, 0, none⟩) 0 0) (hx : a.eval x = pv) (hp : RdV w pv b) (hb : b.length ≤ 1000000000000)
    (h : ∀ k c w', w.heap.size ≤ k → RdA w' ⟨k, 0, none⟩ b → b.length ≤ c → Own1 w' w.heap.size 5 (.slice (some ⟨k, 0, none⟩) b.length c) (uC b) → Ext w w' → wpList Tryd.prog ops Q rest (a.put o.dst (.slice (some ⟨k, 0, none⟩) b.length c)) w') :
    wpList Tryd.prog ops Q (o :: rest) a (w.alloc (.cells #[] 5)) := by
  have own0 : Own1 (w.alloc (.cells #[] 5)) w.heap.size 5 (.slice (some ⟨w.heap.size, 0, none⟩) 0 0) [] := ⟨rfl, .inr ⟨w.heap.size, 0, #[], rfl, Nat.le_refl _, heap_alloc_new w _, Nat.le_refl _, Nat.zero_le _, rfl, rfl⟩⟩
  refine wpList_appK hgd s x 28 ho w.heap.size 5 (.int .u8 0) 1 Tryd.underlying28 info_u8 rfl _ [] (uC b) hs own0 (by rw [hx]; exact (hp.ext ((Ext.refl w).alloc _)).news) (uC_one b) (by rw [uC_len]; simp; omega) (by rw [uC_len]; simp; omega) (by simp) ?_
  intro v' w' h1 h2 h3 h4
  rw [List.nil_append] at h1
  rcases h1.slice with ⟨rfl, _⟩ | ⟨g, cap, cur, rfl, hg, _, hc, _⟩
  · cases h4 rfl
  · rw [uC_len] at h1 hc ⊢
    refine h g cap w' hg (RdA.of_own h1) hc h1 ?_
    exact Ext.keeps ((Ext.refl w).alloc _) ((Keeps.refl (fun k => k = w.heap.size) _).grown h2 (fun k hk => .inr (by simp only [Value.ownBlock, Option.some.injEq] at hk; exact hk.symm))) (fun i hi hf => by omega)

end Go.Proofs.YtfgocamajfipmaaDoor
