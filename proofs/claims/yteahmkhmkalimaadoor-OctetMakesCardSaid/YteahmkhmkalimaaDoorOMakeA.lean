/- For the law OctetMakes: a text's bytes as a slice; append of them; Of any of them. No condition but the text's length. -/
import Derived.Test.YteahmkhmkalimaaDoorRefO
import Derived.Test.YteahmkhmkalimaaDoorOLives
import Derived.Test.YteahmkhmkalimaaDoorFst
import Derived.Laws.IdiomStrings
namespace Go.Proofs.YteahmkhmkalimaaDoor
open Go.RowKit

set_option maxHeartbeats 1000000 in
theorem of_big (l : List Nat) (v : Value) (w : World) (hv : RdB w v l) (hb : ∀ j, l.getD j 0 < 256) (hl : l.length ≤ 140737488355327) :
    Calls Tryd.prog 11 #[v] w fun r w' => r = .returned (setV (ofL l)) ∧ Ext w w' := by
  obtain ⟨A, c, rfl, hc⟩ := hv
  have HC := Lib.hid hc
  have HB := Lib.hid hb
  clear hc hb
  go_enter Tryd.func11, Tryd.ntmps11
  go_wp2
  go_loopw [5, 8] (fun x i wr => ∃ k : Nat, k ≤ l.length ∧ i = .int .i64 k ∧ Blk wr (w.heap.size + 1) 24 (setC (ofL (l.take k))) ∧ Blk wr w.heap.size 24 (setC (fun _ => false)) ∧ Ext w wr) (fun _ i _ => l.length - (intOf i).toNat)
  case atStart =>
    refine ⟨0, Nat.zero_le _, rfl, ?_, ?_, ((Ext.refl w).alloc _).alloc _⟩
    · rw [show ofL (l.take 0) = fun _ => false from rfl, setC_none]; exact heap_alloc2_new w _ _
    · rw [setC_none]; exact (Blk.new w _ _).alloc _
  case round =>
    obtain ⟨k, hk, rfl, hs, hr, hx⟩ := hrel
    by_cases hlt : k < l.length
    · obtain ⟨g, o, rfl, hcell⟩ := HC.out k hlt
      have h1 := hx.cell hcell
      have hb1 := HB.out k
      generalize hbe : l.getD k 0 = b at *
      have HBE := Lib.hid hbe
      clear hbe hcell
      have hi : b / 64 < 4 := by omega
      have h2 := hs.cell (b / 64)
      rw [setC_get _ _ hi] at h2
      unfold u64v at h2
      have h3 := hs.frozen (b / 64)
      go_wp2
      go_roundw
      case rel =>
        refine ⟨k + 1, by omega, by go_num, ?_, hr.far (by simp) _, hx.setCell (by simp) _⟩
        have := hs.set (b / 64) (.int .u64 (bits .or .u64 (wd (ofL (l.take k)) (b / 64) : Int) (IntKind.u64.wrap (2 ^ (b % 64)))))
        rw [or_wd] at this
        have e := setC_put (ofL (l.take k)) (ofL (l.take (k + 1))) (b / 64) (wd (insB (ofL (l.take k)) b) (b / 64)) hi (by rw [ofL_snoc l k hlt, HBE.out]) (fun j _ hj => by rw [ofL_snoc l k hlt, HBE.out]; exact wd_ins_ne _ _ _ hj)
        rw [or_wd, ← e]
        exact this
      case measure => simp [intOf]; omega
    · have hkl : l.take k = l := List.take_of_length_le (by omega)
      rw [hkl] at hs
      clear hkl
      go_wp2_with (first
        | (refine wpl_loadSet rfl (.tmp 3) rfl (w.heap.size + 1) _ (ofL l) rfl hs ?_)
        | (refine wpl_storeSet rfl (.tmp 2) (.tmp 22) rfl w.heap.size _ (ofL l) (fun _ => false) rfl rfl hr ?_))
      exact ret_set rfl rfl rfl hr.setRow ⟨rfl, hx.setRow (Nat.le_refl _) _⟩

/-- The bytes of a list as cells. -/
def cB (l : List Nat) : List Value := l.map fun b => .int .u8 (b : Nat)
theorem cB_len (l : List Nat) : (cB l).length = l.length := by simp [cB]
theorem cB_get (l : List Nat) (j : Nat) (h : j < l.length) : (cB l)[j]? = some (.int .u8 (l.getD j 0 : Nat)) := by
  unfold cB
  rw [List.getElem?_map, List.getD_eq_getElem?_getD, List.getElem?_eq_getElem h]
  rfl
/-- What '[]byte(text)' lays reads as the text's bytes. -/
theorem rd_bytes (w : World) (s : ByteArray) (cap : Nat) (e : TypeId) (fr : Nat × Nat) : ∀ j, j < s.size → (w.alloc (.cells (bytesRow s cap) e fr)).cell? ⟨w.heap.size, j, none⟩ = some (.int .u8 ((byteL s).getD j 0 : Nat)) := fun j hj => by
  rw [World.cell?_alloc_mark]
  unfold bytesRow
  have h1 : j < (s.data.map (fun b => Value.int .u8 b.toNat)).size := by simpa using hj
  rw [Array.getElem?_append_left h1, byteL_get s j hj]
  simp
  exact ⟨s[j], Array.getElem?_eq_getElem (xs := s.data) hj, rfl⟩
/-- An owned row's first cells read as its list's beginning. -/
theorem RdB.of_own {w : World} {B : Nat} {e : TypeId} {g n cap : Nat} {l l' : List Nat} (h : Own1 w B e (.slice (some ⟨g, 0, none⟩) n cap) (cB (l ++ l'))) (c : Nat) : RdB w (.slice (some ⟨g, 0, none⟩) l.length c) l := by
  rcases Nat.eq_zero_or_pos (cB (l ++ l')).length with h0 | h0
  · rw [cB_len, List.length_append] at h0
    exact ⟨_, c, rfl, fun j hj => by omega⟩
  · obtain ⟨g', cap', hv, _, _, hc⟩ := h.form h0
    simp only [Value.slice.injEq, Option.some.injEq, Addr.mk.injEq] at hv
    obtain ⟨⟨rfl, _, _⟩, _, _⟩ := hv
    refine ⟨_, c, rfl, fun j hj => ⟨g, 0, rfl, ?_⟩⟩
    rw [Nat.zero_add, hc j _ (cB_get _ j (by rw [List.length_append]; omega)), List.getD_eq_getElem?_getD, List.getElem?_append_left hj, ← List.getD_eq_getElem?_getD]

/-- 'append(b, list...)' onto a row of the call's own. -/
theorem wpList_appB {P : Program} {w : World} {ops : Array Oper} {rest : List Oper} {o : Oper} {a : Act} {Q : Exit → Act → World → Prop} (hgd : o.guard = none) (s x : Operand) (t : TypeId)
    (ho : o.op = .call { callee := .builtin .append, args := #[s, x], argTypes := #[t, t] })
    (B : Nat) (e : TypeId) (z : Value) (ht : P.underlying t = some (.slice e)) (hi : (P.info? e).map (fun i => (i.zero, i.size, i.bytes)) = some (some z, 1, 1)) (hzs : z.cells.size = 1)
    (v : Value) (xs news : List Value) (hs : a.eval s = v) (hown : Own1 w B e v xs)
    (g m c : Nat) (hx : a.eval x = .slice (some ⟨g, 0, none⟩) m c) (hm : news.length = m) (hc : ∀ j u, news[j]? = some u → w.cell? ⟨g, j, none⟩ = some u) (h1 : ∀ u ∈ news, u.oneCell' = true)
    (hb : xs.length + m ≤ 140737488355328) (hbase : B ≤ w.heap.size)
    (h : ∀ v' w', Own1 w' B e v' (xs ++ news) → Below B w w' → wpList P ops Q rest (a.put o.dst v') w') : wpList P ops Q (o :: rest) a w := by
  obtain ⟨i, hi0, hz0, hz1, hz2⟩ := info_parts hi
  refine wpList_append_own_at w hgd s x t ho B e i z 1 1 ht hi0 hz0 hz1 hz2 hzs (by omega) v xs.length xs hs hown ⟨g, 0, none⟩ m c news hx (by omega) ?_ h1 (by simp only [maxLen]; omega) (by omega) hbase ?_
  · intro j y hj
    have ea : (⟨g, 0, none⟩ : Addr).add j = ⟨g, j, none⟩ := by unfold Addr.add; split <;> simp_all
    rw [ea]
    exact hc j y hj
  · intro v' w' ho' hg _ _
    exact h v' w' (by unfold Own1; simpa [hm] using ho') ((Below.refl B w).grown hg hbase (fun k hk => (World.ownsRow.lt hown k hk).1))

end Go.Proofs.YteahmkhmkalimaaDoor
