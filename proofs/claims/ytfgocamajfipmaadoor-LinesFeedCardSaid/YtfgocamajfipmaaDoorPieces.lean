/- A [][]byte that came in, opened as a list of lists of bytes; trawllaw27.much as a contract. Condition: each piece's length is below a process's memory. -/
import Derived.Test.YtfgocamajfipmaaDoorSplit
import Derived.Deep.Slices
import Derived.SizedLaws
import Derived.ChangeSlices
namespace Go.Proofs.YtfgocamajfipmaaDoor
open Go.RowKit Go.ChangeShapes Go.WideShapes Go.Deep
set_option maxRecDepth 100000

/-- A value reads as a list of bytes. -/
def RdV (w : World) (pv : Value) (b : List UInt8) : Prop := (pv = .slice none 0 0 ∧ b = []) ∨ ∃ a c, pv = .slice (some a) b.length c ∧ b.length ≤ c ∧ RdA w a b
theorem RdV.ext {w w' : World} {pv : Value} {b : List UInt8} (h : RdV w pv b) (hx : Ext w w') : RdV w' pv b := by
  rcases h with h | ⟨a, c, h1, h2, h3⟩
  · exact .inl h
  · exact .inr ⟨a, c, h1, h2, h3.ext hx⟩
theorem RdV.shape {w : World} {pv : Value} {b : List UInt8} (h : RdV w pv b) : ∃ A c, pv = .slice A b.length c := by
  rcases h with ⟨rfl, rfl⟩ | ⟨a, c, rfl, _⟩
  · exact ⟨none, 0, rfl⟩
  · exact ⟨some a, c, rfl⟩
theorem RdV.news {w : World} {pv : Value} {b : List UInt8} (h : RdV w pv b) : (pv = .slice none 0 0 ∧ uC b = []) ∨ ∃ ad c, pv = .slice (some ad) (uC b).length c ∧ ∀ j u, (uC b)[j]? = some u → w.cell? (ad.add j) = some u := by
  rcases h with ⟨h1, rfl⟩ | ⟨a, c, h1, _, h3⟩
  · exact .inl ⟨h1, rfl⟩
  · exact .inr ⟨a, c, by rw [uC_len]; exact h1, h3.cells⟩
theorem conv_V (w : World) (pv : Value) (b : List UInt8) (h : RdV w pv b) : (convert 28 9 pv).run Tryd.prog w = .ok (strV b) w := by
  rcases h with ⟨rfl, rfl⟩ | ⟨a, c, rfl, _, h3⟩
  · exact Lib.run_convert_nil_bytes w 28 9 5 0 Tryd.underlying28 Tryd.underlying5 Tryd.underlying9
  · exact conv_at w a c b h3
/-- A value reads as a list of pieces. -/
def RdP (w : World) (v : Value) (ps : List (List UInt8)) : Prop :=
  ∃ A c, v = .slice A ps.length c ∧ ∀ j, j < ps.length → ∃ g o, A = some ⟨g, o, none⟩ ∧ ∃ pv, w.cell? ⟨g, o + j, none⟩ = some pv ∧ RdV w pv (ps.getD j [])

theorem RdP.ext {w w' : World} {v : Value} {ps : List (List UInt8)} (h : RdP w v ps) (hx : Ext w w') : RdP w' v ps := by
  obtain ⟨A, c, hv, hc⟩ := h
  exact ⟨A, c, hv, fun j hj => by obtain ⟨g, o, hA, pv, hcell, hp⟩ := hc j hj; exact ⟨g, o, hA, pv, hx.cell hcell, hp.ext hx⟩⟩

section
variable {H : Type} {enc : TypeId × Value → H} {w : World} {base : Nat} {spare : Nat → Bool} {held : Bool}
theorem cells_u8 : Tryd.prog.cellsOf 5 = 1 := by kernel_rfl
theorem cells_bytes : Tryd.prog.cellsOf 28 = 1 := by kernel_rfl
theorem u8_nat {n : Int} (h : (Lit.int .u8 n).wf = true) : ((UInt8.ofNat n.toNat).toNat : Int) = n := by
  obtain ⟨h0, h1⟩ : 0 ≤ n ∧ n ≤ 255 := by simpa [Lit.wf, IntKind.min, IntKind.max, IntKind.signed, IntKind.bits] using h
  obtain ⟨k, rfl⟩ := Int.eq_ofNat_of_zero_le h0
  simp
  omega
theorem open_bytes {n : Nat} {cs : List Value} {x : DataW H × List MemPlace} (h : DataW.trod enc Tryd.prog w base spare held n 28 cs = some x) :
    ∃ pv b, cs = [pv] ∧ RdV w pv b ∧ (b = [] ∨ ∃ e' sp', x.1 = .slice e' sp' ∧ e'.length = b.length) := by
  rcases Go.ChangeShapes.open_ints Tryd.underlying28 Tryd.underlying5 cells_u8 h with ⟨rfl, _⟩ | ⟨a, len, cap, zs, rfl, _, hl, _, hz, hx, hc, hw⟩
  · exact ⟨_, [], rfl, .inl ⟨rfl, rfl⟩, .inl rfl⟩
  · have hlz : len ≤ zs.length := by rw [hz]; split <;> omega
    have hbl : ((zs.take len).map fun z => UInt8.ofNat z.toNat).length = len := by simp; omega
    refine ⟨_, (zs.take len).map fun z => UInt8.ofNat z.toNat, rfl, .inr ⟨a, cap, by rw [hbl], by rw [hbl]; exact hl, fun j hj => ?_⟩, .inr ⟨_, _, by rw [hx], by simp [lits]⟩⟩
    rw [hbl] at hj
    rw [hc j (by omega), List.getD_eq_getElem?_getD, List.getD_eq_getElem?_getD, List.getElem?_map, List.getElem?_take, if_pos hj, List.getElem?_eq_getElem (by omega)]
    simp only [Option.map_some, Option.getD_some]
    rw [u8_nat (hw _ (List.getElem_mem _))]
theorem open_pieces {r : Reach} {b0 : Nat} {v : Value} {d : DataW H} {qs : List MemPlace} (hval : Value.okWide Tryd.prog w r b0 22 v) (h : DataW.Trod enc Tryd.prog w base spare held 22 v d qs) :
    ∃ ps : List (List UInt8), RdP w v ps ∧ ps.length ≤ 9223372036854775807 ∧ ∀ j, j < ps.length → ps.getD j [] = [] ∨ ∃ elems spare e' sp', d = .slice elems spare ∧ DataW.slice e' sp' ∈ elems ∧ e'.length = (ps.getD j []).length := by
  obtain ⟨a0, l0, c0, rfl⟩ := okWide_slice Tryd.underlying22 hval
  obtain ⟨fuel, hf⟩ := h
  rcases open_slice1 (fuel := fuel) Tryd.underlying22 cells_bytes hf with ⟨h0, _⟩ | ⟨a, len, cap, m, n, V, D, Pl, h0, hb, hl, hm, hmm, he, hx⟩
  · have h0 : Value.slice a0 l0 c0 = .slice none 0 0 := by injection h0
    rw [h0]
    exact ⟨[], ⟨none, 0, rfl, fun j hj => absurd hj (Nat.not_lt_zero j)⟩, by simp, fun j hj => absurd hj (Nat.not_lt_zero j)⟩
  · have h0 : Value.slice a0 l0 c0 = .slice (some a) len cap := by injection h0
    rw [h0]
    have hlm : len ≤ m := by rw [hmm]; split <;> omega
    obtain ⟨F, hF⟩ := choose_lt (α := List UInt8) (n := len) (p := fun j b => RdV w (V j) b ∧ (b = [] ∨ ∃ e' sp', D j = .slice e' sp' ∧ e'.length = b.length)) (fun j hj => by
      obtain ⟨_, h2⟩ := hx j (by omega)
      obtain ⟨pv, b, e1, e2, e3⟩ := open_bytes h2
      obtain rfl : V j = pv := by injection e1
      exact ⟨b, e2, e3⟩)
    have hg : ∀ j, j < len → ((List.range len).map F).getD j [] = F j := fun j hj => by
      rw [List.getD_eq_getElem?_getD, List.getElem?_map, List.getElem?_range hj]; rfl
    have hlen : ((List.range len).map F).length = len := by simp
    refine ⟨(List.range len).map F, ⟨some a, cap, by rw [hlen], fun j hj => ?_⟩, by rw [hlen]; simp only [maxLen] at hm; omega, fun j hj => ?_⟩
    · rw [hlen] at hj
      obtain ⟨h1, _⟩ := hx j (by omega)
      have h00 := (hx 0 (by omega)).1
      have hsp : a.spot = none := by simpa [Addr.add] using World.cell?_spot h00
      refine ⟨a.block, a.off, ?_, V j, ?_, ?_⟩
      · obtain ⟨b, o, s⟩ := a; simp only at hsp; subst hsp; rfl
      · have ea : a.add j = ⟨a.block, a.off + j, none⟩ := by
          obtain ⟨b, o, s⟩ := a
          simp only at hsp
          subst hsp
          unfold Addr.add
          split <;> simp_all
        rw [← ea]
        exact h1
      · rw [hg j hj]; exact (hF j hj).1
    · rw [hlen] at hj
      rw [hg j hj]
      rcases (hF j hj).2 with h5 | ⟨e', sp', h5, h6⟩
      · exact .inl h5
      · have hd : d = .slice ((List.range len).map D) ((List.range (m - len)).map fun j => D (len + j)) := by
          have := congrArg Prod.fst he
          exact this
        exact .inr ⟨_, _, e', sp', hd, by rw [← h5]; exact List.mem_map.2 ⟨j, List.mem_range.2 hj, rfl⟩, h6⟩
end

theorem bytes_u8 : Tryd.prog.bytesOf 5 = 1 := by kernel_rfl
theorem weightsAll_mem {H : Type} {P : Program} {e : TypeId} : ∀ {l : List (DataW H)} {d : DataW H}, d ∈ l → ∀ n ∈ d.weights P e, n ∈ DataW.weightsAll P e l
  | d' :: r, d, hd, n, hn => by
    simp only [DataW.weightsAll, List.mem_append]
    rcases List.mem_cons.1 hd with rfl | h
    · exact Or.inl hn
    · exact Or.inr (weightsAll_mem h n hn)
/-- No piece is longer than a process's memory. -/
theorem pieces_small {H : Type} {ts : List TypeId} {ds : List (DataW H)} (h : (DataW.weightsEach Tryd.prog ts ds).all (· ≤ reachBytes) = true) {j : Nat} {d : DataW H} (ht : ts[j]? = some 22) (hd : ds[j]? = some d) {ps : List (List UInt8)}
    (hp : ∀ j, j < ps.length → ps.getD j [] = [] ∨ ∃ elems spare e' sp', d = .slice elems spare ∧ DataW.slice e' sp' ∈ elems ∧ e'.length = (ps.getD j []).length) : ∀ k, (ps.getD k []).length ≤ 140737488351232 := fun k => by
  by_cases hk : k < ps.length
  · rcases hp k hk with h0 | ⟨elems, spare, e', sp', rfl, hm, hl⟩
    · rw [h0]; exact Nat.zero_le _
    · have h1 : (e'.length + sp'.length) * Tryd.prog.bytesOf 5 ≤ reachBytes := by
        refine of_decide_eq_true (List.all_eq_true.1 h _ (DataW.weights_mem_each ht hd _ ?_))
        simp only [DataW.weights, Tryd.underlying22, List.mem_cons, List.mem_append]
        exact Or.inr (Or.inl (weightsAll_mem hm _ (by simp [DataW.weights, Tryd.underlying28])))
      rw [bytes_u8, Nat.mul_one] at h1
      have h2 : reachBytes = 140737488351232 := by decide
      omega
  · rw [List.getD_eq_getElem?_getD, List.getElem?_eq_none (by omega)]; exact Nat.zero_le _

theorem flat_snoc (ps : List (List UInt8)) (k : Nat) (h : k < ps.length) : (ps.take (k + 1)).flatten = (ps.take k).flatten ++ ps.getD k [] := by
  rw [List.take_succ_eq_append_getElem h, List.flatten_append, List.getD_eq_getElem?_getD, List.getElem?_eq_getElem h]
  simp

theorem flat_take_le (ps : List (List UInt8)) (k : Nat) : (ps.take k).flatten.length ≤ ps.flatten.length := by
  have : ps.flatten = (ps.take k).flatten ++ (ps.drop k).flatten := by rw [← List.flatten_append, List.take_append_drop]
  rw [this, List.length_append]
  omega
/-- More than a statement waits for. -/
def muchB (ps : List (List UInt8)) : Bool := decide (200000 < ps.flatten.length) || decide (2000 < ps.length)
theorem much_no (ps : List (List UInt8)) (h : muchB ps = false) : ps.length ≤ 2000 ∧ ps.flatten.length ≤ 200000 := by
  unfold muchB at h
  rw [Bool.or_eq_false_iff, decide_eq_false_iff_not, decide_eq_false_iff_not] at h
  omega

set_option maxHeartbeats 2000000 in
theorem much_any (ps : List (List UInt8)) (v : Value) (w : World) (hv : RdP w v ps) (hb : ∀ k, (ps.getD k []).length ≤ 140737488351232) (hl : ps.length ≤ 9223372036854775807) :
    Calls Tryd.prog 7 #[v] w fun r w' => r = .returned (.bool (muchB ps)) ∧ w = w' := by
  obtain ⟨A, c, rfl, hc⟩ := hv
  have HC := Lib.hid hc
  have HB := Lib.hid hb
  clear hc hb
  go_enter Tryd.func7, Tryd.ntmps7
  go_wp2
  go_loopw [3, 5, 8] (fun nv _ i wr => ∃ k n : Nat, k ≤ ps.length ∧ nv = .int .i64 n ∧ i = .int .i64 k ∧ n = (ps.take k).flatten.length ∧ n ≤ 200000 ∧ wr = w) (fun _ _ i _ => ps.length - (intOf i).toNat)
  case atStart => exact ⟨0, 0, Nat.zero_le _, rfl, rfl, rfl, Nat.zero_le _, rfl⟩
  case round =>
    obtain ⟨k, n, hk, rfl, rfl, hn, hn2, rfl⟩ := hrel
    by_cases hlt : k < ps.length
    · obtain ⟨g, o, rfl, pv, hcell, hpv⟩ := HC.out k hlt
      obtain ⟨A', c', rfl⟩ := hpv.shape
      have hbk := HB.out k
      have hfs : n + (ps.getD k []).length = (ps.take (k + 1)).flatten.length := by rw [flat_snoc ps k hlt, List.length_append, ← hn]
      have HF := Lib.hid hfs
      clear hfs hpv hn
      generalize (ps.getD k []).length = m at *
      have q1 : IntKind.i64.wrap ((n : Int) + (m : Int)) = (n : Int) + (m : Int) := by rw [IntKind.wrap_i64]; omega
      by_cases hm : n + m ≤ 200000
      · have hm2 : (n : Int) + (m : Int) ≤ 200000 := by omega
        go_wp2
        go_roundw
        case rel => exact ⟨k + 1, n + m, by omega, by go_num, by go_num, HF.out, hm, (by first | rfl | trivial)⟩
        case measure => simp [intOf]; omega
      · have hm2 : (200000 : Int) < (n : Int) + (m : Int) := by omega
        go_wp2
        go_ret
        refine ⟨ret_bool ?_, rfl⟩
        have h3 := flat_take_le ps (k + 1)
        have h4 := HF.out
        unfold muchB
        rw [decide_eq_true (show 200000 < ps.flatten.length by omega)]
        rfl
    · have hkn : k = ps.length := by omega
      have hfl : ps.flatten.length ≤ 200000 := by rw [hkn, List.take_length] at hn; omega
      clear hkn
      go_wp2
      go_ret
      refine ⟨ret_bool ?_, rfl⟩
      unfold muchB
      rw [decide_eq_false (show ¬ 200000 < ps.flatten.length by omega), Bool.false_or, decide_eq_decide]
      omega

end Go.Proofs.YtfgocamajfipmaaDoor
