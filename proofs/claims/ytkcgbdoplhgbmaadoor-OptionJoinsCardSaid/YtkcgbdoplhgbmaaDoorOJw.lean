/- The walk of trawllaw28.OptionJoins. Conditions: where the error values and the library's variables lie. -/
import Derived.Test.YtkcgbdoplhgbmaaDoorOJp
import Derived.Test.YtkcgbdoplhgbmaaDoorOBk
import Derived.Test.YtkcgbdoplhgbmaaDoorOWl
import Derived.ArgAppend
import Derived.ChangeMaps5
namespace Go.Proofs.YtkcgbdoplhgbmaaDoor
open Go Go.RowKit

/-- 'append(l, r...)' where l is full: a new row. -/
theorem wpl_appFull {w : World} {ops : Array Oper} {rest : List Oper} {o : Oper} {a : Act} {Q : Exit → Act → World → Prop} (hgd : o.guard = none) (s x : Operand)
    (ho : o.op = .call { callee := .builtin .append, args := #[s, x], argTypes := #[43, 43] }) (ao : Option Addr) (l : List ByteArray) (hs : a.eval s = .slice ao l.length l.length) (hnone : ao = none → l.length = 0)
    (hold : ∀ b, ao = some b → ∀ j u, (l.map Value.string)[j]? = some u → w.cell? (b.add j) = some u)
    (ad : Addr) (r : List ByteArray) (c : Nat) (hx : a.eval x = .slice (some ad) r.length c) (hc : ∀ j u, (r.map Value.string)[j]? = some u → w.cell? (ad.add j) = some u) (hr : 0 < r.length) (hl : l.length + r.length ≤ 4000000000)
    (h : ∀ v' w', Own1 w' w.heap.size 9 v' ((l ++ r).map Value.string) → Ext w w' → wpList Tryd.prog ops Q rest (a.put o.dst v') w') : wpList Tryd.prog ops Q (o :: rest) a w := by
  obtain ⟨i, hi0, hz0, hz1, hz2⟩ := info_parts info_str
  refine wpList_append_grows w hgd s x _ ho 9 i _ 1 16 Tryd.underlying43 hi0 hz0 hz1 hz2 rfl (by omega) ao l.length l.length (l.map Value.string) hs (fun e => ⟨hnone e, hnone e⟩) (by rw [List.length_map, Nat.mul_one]) hold ad r.length c (r.map Value.string) hx (by rw [List.length_map, Nat.mul_one]) hc
    (by intro u hu; obtain ⟨x, _, rfl⟩ := List.mem_map.1 hu; rfl) (by omega) (by simp only [maxLen]; omega) (by omega) ?_
  intro v' w' hown hg
  refine h v' w' ?_ (((Keeps.refl (fun _ => False) w).grown hg (fun k hk => by cases hk)).ext (fun _ _ h => h))
  unfold Own1
  rw [List.map_append, List.length_append, List.length_map, List.length_map]
  exact hown
/-- A full list of texts: nil, or a literal. -/
def JoinV (W : World) (B : Nat) (v : Value) (l : List ByteArray) : Prop :=
  ∃ ao, v = .slice ao l.length l.length ∧ (ao = none → l.length = 0) ∧ (∀ b, ao = some b → B ≤ b.block) ∧ ∀ b, ao = some b → ∀ j u, (l.map Value.string)[j]? = some u → W.cell? (b.add j) = some u
theorem addr_block (b : Addr) (j : Nat) : (b.add j).block = b.block := by unfold Addr.add; split <;> rfl
theorem JoinV.keeps {W W' : World} {F : Nat → Prop} {B : Nat} {v : Value} {l : List ByteArray} (h : JoinV W B v l) (hk : Keeps F W W') (hF : ∀ i, B ≤ i → ¬ F i) : JoinV W' B v l := by
  obtain ⟨ao, h1, h2, h3, h4⟩ := h
  exact ⟨ao, h1, h2, h3, fun b hb j u hu => cell_keeps (h4 b hb j u hu) hk (by rw [addr_block]; exact hF _ (h3 b hb))⟩
theorem JoinV.ext {W W' : World} {B : Nat} {v : Value} {l : List ByteArray} (h : JoinV W B v l) (hx : Ext W W') : JoinV W' B v l :=
  h.keeps (Keeps.of_ext (F := fun _ => False) hx) (fun _ _ h => h)
theorem JoinV.news {W : World} {B : Nat} {v : Value} {l : List ByteArray} (h : JoinV W B v l) : (v = .slice none 0 0 ∧ l.map Value.string = []) ∨ ∃ ad c, v = .slice (some ad) (l.map Value.string).length c ∧ ∀ j u, (l.map Value.string)[j]? = some u → W.cell? (ad.add j) = some u := by
  obtain ⟨ao, h1, h2, h3, h4⟩ := h
  cases ao with
  | none =>
    have hl := h2 rfl
    rw [hl] at h1
    exact .inl ⟨h1, by rw [List.eq_nil_of_length_eq_zero hl]; rfl⟩
  | some b => exact .inr ⟨b, l.length, by rw [List.length_map]; exact h1, h4 b rfl⟩
def apB (s : ByteArray) (k : Nat) : List ByteArray := ((byB s).take k).map fun b => ⟨#[45, b]⟩
def joinedB (s : ByteArray) : List ByteArray := if s.size = 0 then [] else [⟨#[45]⟩ ++ s]
theorem apB_succ (s : ByteArray) (k : Nat) (h : k < s.size) : apB s (k + 1) = apB s k ++ [⟨#[45, s[k]]⟩] := by
  unfold apB
  rw [List.take_add_one, List.map_append, List.getElem?_eq_getElem (by rw [byB_len]; exact h)]
  rfl
theorem apB_all (s : ByteArray) : (apB s s.size).map byB = apartL (byB s) := by
  unfold apB apartL
  rw [List.take_of_length_le (by rw [byB_len]; exact Nat.le_refl _), List.map_map]
  rfl
theorem apB_len (s : ByteArray) (k : Nat) : (apB s k).length ≤ s.size := by
  unfold apB
  rw [List.length_map, List.length_take, byB_len]
  exact Nat.min_le_right _ _
theorem joinedB_map (s : ByteArray) : (joinedB s).map byB = joinedL (byB s) := by
  unfold joinedB joinedL
  have e : byB s = [] ↔ s.size = 0 := by rw [← byB_len, List.length_eq_zero_iff]
  by_cases h : s.size = 0
  · rw [if_pos h, if_pos (e.2 h)]; rfl
  · rw [if_neg h, if_neg (fun h' => h (e.1 h'))]
    simp [byB]
theorem joinedB_len (s : ByteArray) : (joinedB s).length ≤ 1 := by unfold joinedB; split <;> simp
theorem ex_one (s : ByteArray) (k : Nat) (h : k < s.size) : s.extract k (k + 1) = ⟨#[s[k]]⟩ := by
  refine byB_inj ?_
  rw [byB_extract, show k + 1 - k = 1 by omega]
  show (s.data.toList.drop k).take 1 = _
  rw [drop_get s k h]
  rfl
theorem tot_apart (l : List UInt8) : totP (apartL l) = 3 * l.length := by
  induction l with
  | nil => rfl
  | cons b l ih =>
    have e : apartL (b :: l) = [45, b] :: apartL l := rfl
    rw [e, totP_cons, ih]
    simp only [List.length_cons, List.length_nil]
    omega
theorem tot_joined (l : List UInt8) : totP (joinedL l) ≤ l.length + 2 := by
  unfold joinedL
  split
  · rw [tot_nil]; omega
  · rw [totP_cons, tot_nil, List.length_cons]; omega
theorem two_cells {W : World} {a b : ByteArray} {t : TypeId} : ∀ j u, ([a, b].map Value.string)[j]? = some u → (W.alloc (.cells #[.string a, .string b] t)).cell? ((⟨W.heap.size, 0, none⟩ : Addr).add j) = some u := fun j u hu => by
  have hb : Blk (W.alloc (.cells #[.string a, .string b] t)) W.heap.size t #[.string a, .string b] := Blk.new W _ _
  match j with
  | 0 => exact (hb.cell 0).trans hu
  | 1 => exact (hb.cell 1).trans hu
  | j + 2 => simp at hu

set_option maxRecDepth 100000 in
set_option maxHeartbeats 16000000 in
theorem optionJoins_walk (s t : ByteArray) (w : World) (A : Nat → Addr) (m : Int)
    (hE : ErrsAt w A) (hT : w.cell? ⟨21, 0, none⟩ = some errTV) (hM : w.cell? ⟨22, 0, none⟩ = some (.int .i64 m)) :
    Calls Tryd.prog 10 #[.string s, .string t] w fun e w' => e = .returned (.bool true) ∧ Ext w w' := by
  have HE := Lib.hid hE
  have HT := Lib.hid hT
  have HMX := Lib.hid hM
  have HLV := Lib.hid (lives28_any w A m hE hM hT)
  clear hE hT hM
  go_enter Tryd.func10, Tryd.ntmps10
  go_upto_region 3 with (go_at_call 28; refine HLV.out.mono ?_; rintro e w2 ⟨rfl, hx2⟩)
  have HX2 := Lib.hid hx2
  have hs02 := hx2.size
  clear HLV hx2
  by_cases h1 : 1000 < s.size
  · have q1 : (1000 : Int) < (s.size : Int) := by omega
    clear h1
    go_wp2
    go_ret
    exact ⟨rfl, HX2.out⟩
  by_cases h2 : 5000 < t.size
  · have q1 : ¬ (1000 : Int) < (s.size : Int) := by omega
    have q2 : (5000 : Int) < (t.size : Int) := by omega
    clear h1 h2
    go_wp2
    go_ret
    exact ⟨rfl, HX2.out⟩
  have q1 : ¬ (1000 : Int) < (s.size : Int) := by omega
  have q2 : ¬ (5000 : Int) < (t.size : Int) := by omega
  have h1' : s.size ≤ 1000 := by omega
  have h2' : t.size ≤ 5000 := by omega
  clear h1 h2
  go_wp2
  go_loopw [5, 6] (fun lv iv wr => ∃ k : Nat, k ≤ s.size ∧ iv = .int .i64 k ∧ Own1 wr w2.heap.size 9 lv ((apB s k).map Value.string) ∧ Ext w2 wr ∧ Hid (∀ b ∈ (byB s).take k, isSimp b = true)) (fun _ iv _ => s.size - (intOf iv).toNat)
  case atStart => exact ⟨0, Nat.zero_le _, rfl, Own1.nil _ _ _, Ext.refl _, Lib.hid (fun b hb => by rw [List.take_zero] at hb; cases hb)⟩
  case round =>
    obtain ⟨k, hk, rfl, ho, hx, HB⟩ := hrel
    obtain ⟨w3, hw3⟩ : ∃ w, w = wr := ⟨_, rfl⟩
    subst hw3
    have HO := Lib.hid ho
    have HX := Lib.hid hx
    have hs23 := hx.size
    obtain ⟨A5, c5, hs5, hlc5⟩ := ho.shape
    rw [List.length_map] at hs5 hlc5
    subst hs5
    clear ho hx
    by_cases hlt : k < s.size
    · have q9 : (k : Int) < (s.size : Int) := by omega
      have hex := ex_one s k hlt
      have HCO : Hid (∀ W, Calls Tryd.prog 51 #[.string ⟨#[69, 71, 105, 118, 99, 110, 111, 113, 120, 119]⟩, .string (s.extract k (k + 1))] W fun e w' => e = .returned (.bool (isSimp s[k])) ∧ W = w') := Lib.hid (fun W => by
        rw [hex, ← in_letters]
        exact (Tryd.strings_Contains_one letters10 s[k] W).mono fun e w' ⟨a, b⟩ => ⟨a, b.symm⟩)
      have hsx : (s.extract k (k + 1)).size = 1 := by rw [hex]; rfl
      have HSNOC := Lib.hid (apB_succ s k hlt)
      have HTK : Hid (isSimp s[k] = true → ∀ b ∈ (byB s).take (k + 1), isSimp b = true) := Lib.hid (fun hs b hb => by
        rw [List.take_add_one, List.getElem?_eq_getElem (by rw [byB_len]; exact hlt)] at hb
        rcases List.mem_append.1 hb with hb | hb
        · exact HB.out b hb
        · have hb' : b = s.data[k] := by simpa [byB] using hb
          rw [show b = s[k] from hb']; exact hs)
      have HAD : ∀ W, (Op.stringOp .add ⟨#[45]⟩ (s.extract k (k + 1))).run Tryd.prog W = .ok (.string ⟨#[45, s[k]]⟩) W := fun W => by
        rw [run_string_add_sum W _ _ (by rw [hsx]; show 1 + 1 ≤ _; omega), hex]
        rfl
      have hal := apB_len s k
      clear hex hsx
      generalize s[k] = b at *
      generalize hbs : isSimp b = bs at *
      cases bs with
      | true =>
        clear hbs
        go_wp2_with (first
          | (go_at_call 51; refine (HCO.out _).mono ?_; rintro e w4 ⟨rfl, rfl⟩)
          | (at_builtin; refine wpList_appT rfl (.tmp 37) (.tmp 44) rfl w2.heap.size _ (apB s k) rfl (HO.out.ext ((Ext.refl w3).alloc _)) w3.heap.size 1 ⟨#[45, b]⟩ rfl ((Blk.new w3 _ _).cell 0) (by omega) (by rw [World.size_alloc]; omega) ?_; intro v6 w6 own6 hb6))
        go_roundw
        case rel => exact ⟨k + 1, hlt, by go_num, by rw [HSNOC.out]; exact own6, Below.trans (HX.out.alloc _) hb6, Lib.hid (HTK.out trivial)⟩
        case measure => simp [intOf]; omega
      | false =>
        clear hbs HAD
        go_wp2_with (go_at_call 51; refine (HCO.out _).mono ?_; rintro e w4 ⟨rfl, rfl⟩)
        go_ret
        exact ⟨rfl, HX2.out.trans HX.out⟩
    · have q9 : ¬ (k : Int) < (s.size : Int) := by omega
      obtain rfl : k = s.size := by omega
      have hall : ∀ b ∈ byB s, isSimp b = true := by
        have := HB.out
        rwa [List.take_of_length_le (by rw [byB_len]; exact Nat.le_refl _)] at this
      have HAP := Lib.hid (apB_all s)
      have hal := apB_len s s.size
      have hjl := joinedB_len s
      generalize hJ : joinedB s = J at *
      generalize hP : apB s s.size = P at *
      have HPA : Hid (∀ W v, RdT W v (P ++ [⟨#[45, 45]⟩, t]) → Ext w W → Calls Tryd.prog 30 #[v] W (ParR W A (.ok (resO (byB s) (byB t))))) := Lib.hid (fun W v hr hx => by
        have e : (P ++ [⟨#[45, 45]⟩, t]).map byB = apartL (byB s) ++ [[45, 45], byB t] := by rw [List.map_append, HAP.out]; rfl
        have h := oparse_any W v _ A m hr (by rw [e, tot_app, tot_apart, totP_cons, totP_cons, tot_nil, byB_len, byB_len]; simp only [List.length_cons, List.length_nil]; omega) (HE.out.ext hx) (hx.cell HMX.out)
        rw [e, parsed_apart _ hall] at h
        exact h)
      have HPB : Hid (∀ W v, RdT W v (J ++ [⟨#[45, 45]⟩, t]) → Ext w W → Calls Tryd.prog 30 #[v] W (ParR W A (.ok (resO (byB s) (byB t))))) := Lib.hid (fun W v hr hx => by
        have e : (J ++ [⟨#[45, 45]⟩, t]).map byB = joinedL (byB s) ++ [[45, 45], byB t] := by rw [List.map_append, ← hJ, joinedB_map]; rfl
        have h := oparse_any W v _ A m hr (by have := tot_joined (byB s); rw [byB_len] at this; rw [e, tot_app, totP_cons, totP_cons, tot_nil, byB_len]; simp only [List.length_cons, List.length_nil]; omega) (HE.out.ext hx) (hx.cell HMX.out)
        rw [e, parsed_joined _ hall] at h
        exact h)
      have HPC : Hid (∀ W v, RdT W v (J ++ [⟨#[45, 101]⟩, t]) → Ext w W → Calls Tryd.prog 30 #[v] W (ParR W A (.ok (resO (byB s) (byB t))))) := Lib.hid (fun W v hr hx => by
        have e : (J ++ [⟨#[45, 101]⟩, t]).map byB = joinedL (byB s) ++ [[45, 101], byB t] := by rw [List.map_append, ← hJ, joinedB_map]; rfl
        have h := oparse_any W v _ A m hr (by have := tot_joined (byB s); rw [byB_len] at this; rw [e, tot_app, totP_cons, totP_cons, tot_nil, byB_len]; simp only [List.length_cons, List.length_nil]; omega) (HE.out.ext hx) (hx.cell HMX.out)
        rw [e, parsed_e _ hall] at h
        exact h)
      have HRM : Hid ((resO (byB s) (byB t)).most = -1) := Lib.hid (res_most _ hall)
      have HRP : Hid ((resO (byB s) (byB t)).pats = partsP (byB t)) := Lib.hid rfl
      have HJ := Lib.hid hJ
      generalize resO (byB s) (byB t) = ro at *
      clear hall hJ hP HAP HB q9 hlt hk
      go_upto_region 13 with fail
      go_cut [47] (fun v wx => v = .bool (decide (s.size ≠ 0)) ∧ w3 = wx)
      case first =>
        by_cases hs0 : s.size = 0
        · have e0 : s.toList.isEmpty = true := by rw [ByteArray.toList_eq, List.isEmpty_iff, ← List.length_eq_zero_iff]; simpa using hs0
          go_wp2
          go_meet
          case rel => exact ⟨by simp [hs0], rfl⟩
        · have e0 : s.toList.isEmpty = false := by
            rw [Bool.eq_false_iff]
            intro h
            rw [ByteArray.toList_eq, List.isEmpty_iff, ← List.length_eq_zero_iff] at h
            exact hs0 (by simpa using h)
          go_wp2
          go_meet
          case rel => exact ⟨by simp [hs0], rfl⟩
      obtain ⟨rfl, rfl⟩ := hcut
      go_step
      go_cut [7, 47] (fun jv _ wx => JoinV wx w3.heap.size jv J ∧ Ext w3 wx)
      case first =>
        by_cases hs0 : s.size = 0
        · rw [decide_eq_false (by simpa using hs0)]
          have HJ0 : Hid (J = []) := Lib.hid (by rw [← HJ.out]; unfold joinedB; rw [if_pos hs0])
          clear hs0
          go_wp2
          go_meet
          case rel => exact ⟨⟨none, (by rw [HJ0.out]; rfl), (fun _ => by rw [HJ0.out]; rfl), (fun _ h => by cases h), (fun _ h => by cases h)⟩, Ext.refl _⟩
        · rw [decide_eq_true hs0]
          have HJ0 : Hid (J = [⟨#[45]⟩ ++ s]) := Lib.hid (by rw [← HJ.out]; unfold joinedB; rw [if_neg hs0])
          have HAD : ∀ W, (Op.stringOp .add ⟨#[45]⟩ s).run Tryd.prog W = .ok (.string (⟨#[45]⟩ ++ s)) W := fun W => run_string_add_sum W _ _ (by show 1 + s.size ≤ _; omega)
          clear hs0
          go_wp2
          go_meet
          case rel =>
            have hb : Blk (w3.alloc (.cells #[.string (⟨#[45]⟩ ++ s)] 9)) w3.heap.size 9 #[.string (⟨#[45]⟩ ++ s)] := Blk.new w3 _ _
            refine ⟨⟨some ⟨w3.heap.size, 0, none⟩, (by rw [HJ0.out]; rfl), (fun h => by cases h), (fun b hb => by injection hb with hb; subst hb; exact Nat.le_refl _), fun b hb' j u hu => ?_⟩, (Ext.refl w3).alloc _⟩
            injection hb' with hb'
            subst hb'
            rw [HJ0.out] at hu
            match j with
            | 0 => exact (hb.cell 0).trans hu
            | j + 1 => simp at hu
      obtain ⟨hj, hx34⟩ := hcut
      obtain ⟨w4, hw4⟩ : ∃ w, w = wc := ⟨_, rfl⟩
      subst hw4
      obtain ⟨ao, hu7, hjn, hjb, hjc⟩ := hj
      subst hu7
      have HJV : Hid (JoinV w4 w3.heap.size (.slice ao J.length J.length) J) := Lib.hid ⟨ao, rfl, hjn, hjb, hjc⟩
      have hs34 := hx34.size
      have HO4 := Lib.hid (HO.out.ext hx34)
      have hown3 : ∀ i, (Value.slice A5 P.length c5).ownBlock = some i → i < w3.heap.size := HO.out.own_lt
      have HX4 := Lib.hid (HX2.out.trans (HX.out.trans hx34))
      clear hjb hjc hx34 HJ HO
      go_upto_region 16 with (first
        | (at_builtin; refine wpList_appK rfl (.tmp 52) (.tmp 54) 43 rfl w2.heap.size 9 (.string ⟨#[]⟩) 16 Tryd.underlying43 info_str rfl _ _ ([(⟨#[45, 45]⟩ : ByteArray), t].map Value.string) rfl (HO4.out.ext ((Ext.refl w4).alloc (.cells #[.string ⟨#[45, 45]⟩, .string t] 9))) (.inr ⟨⟨w4.heap.size, 0, none⟩, 2, rfl, two_cells⟩) (by intro u hu; obtain ⟨x, _, rfl⟩ := List.mem_map.1 hu; rfl) (by rw [List.length_map]; simp only [List.length_map, List.length_cons, List.length_nil]; omega) (by rw [List.length_map]; simp only [List.length_map, List.length_cons, List.length_nil]; omega) (by rw [World.size_alloc]; omega) ?_; intro v5 w5 own5 hg5 _ _; have hK5 := (Keeps.refl (fun i => (Value.slice A5 P.length c5).ownBlock = some i) (w4.alloc (.cells #[.string ⟨#[45, 45]⟩, .string t] 9))).grown hg5 (fun k hk => .inr hk); have hK45 : Keeps (fun i => (Value.slice A5 P.length c5).ownBlock = some i) w4 w5 := (((Keeps.refl (fun i => (Value.slice A5 P.length c5).ownBlock = some i) w4).alloc _).trans hK5 (fun _ _ h => h)); have hx5 : Ext w w5 := HX4.out.keeps hK45 (fun i h1 h2 => by have := HO4.out.own i h2; omega); have hr5 : RdT w5 v5 (P ++ [⟨#[45, 45]⟩, t]) := RdT.of_own (by rw [List.map_append]; exact own5))
        | (go_at_call 30; refine (HPA.out _ _ hr5 hx5).mono ?_; rintro e w6 ⟨ov6, ev6, rfl, hx6, ⟨pv6, ps6, rfl, how6, hps6⟩, hf6⟩)
        | (refine wpl_allocOp rfl rfl ?_; intro z w7 hz hx7 hz0 hzl)
        | (refine wpl_storeOp rfl _ _ rfl rfl z ro zeroO pv6 (.slice none 0 0) rfl rfl (own_isS how6) hz ?_; intro w8 hz8 hk8))
      have hx68 : Ext w6 w8 := hx7.keeps hk8 (fun _ h1 h2 => by omega)
      have HX8 := Lib.hid (hx5.trans (hx6.trans hx68))
      have hs45 := hK45.size
      have hs56 := hx6.size
      have HJ8 := Lib.hid ((HJV.out.keeps hK45 (fun i h1 h2 => by have := hown3 i h2; omega)).ext (hx6.trans hx68))
      have e6 : ev6 = .nilIface := hf6.nil
      subst e6
      have HO8 := Lib.hid (how6.ext hx68)
      have HZ8 := Lib.hid hz8
      clear hx5 hx6 hx68 hz hx7 hk8 hz8 hf6 how6 own5 hg5 hK5 hK45 hr5 HJV HO4 hown3 HPA
      obtain ⟨_, h7, hjn, _, hjc⟩ := HJ8.out
      injection h7 with h7 _ _
      subst h7
      have HJC := Lib.hid hjc
      clear hjc
      go_upto_region 17 with (first
        | (at_builtin; refine wpl_appFull rfl (.tmp 60) (.tmp 62) rfl ao J rfl hjn (fun b hb j u hu => ((Ext.refl w8).alloc _).cell (HJC.out b hb j u hu)) ⟨w8.heap.size, 0, none⟩ [⟨#[45, 45]⟩, t] 2 rfl two_cells (Nat.succ_pos _) (by simp only [List.length_cons, List.length_nil]; omega) ?_; intro v9 w9 own9 hx9')
        | (go_at_call 30; refine (HPB.out _ _ (RdT.of_own own9) ((HX8.out.alloc _).trans hx9')).mono ?_; rintro e w10 ⟨ov10, ev10, rfl, hx10, ⟨pv10, ps10, rfl, how10, hps10⟩, hf10⟩)
        | (refine wpl_allocOp rfl rfl ?_; intro y w11 hy hx11 hy0 hyl)
        | (refine wpl_storeOp rfl _ _ rfl rfl y ro zeroO pv10 (.slice none 0 0) rfl rfl (own_isS how10) hy ?_; intro w12 hy12 hk12))
      have hx1012 : Ext w10 w12 := hx11.keeps hk12 (fun _ h1 h2 => by omega)
      have hx812 : Ext w8 w12 := (((Ext.refl w8).alloc _).trans hx9').trans (hx10.trans hx1012)
      have HX12 := Lib.hid (HX8.out.trans hx812)
      have e10 : ev10 = .nilIface := hf10.nil
      subst e10
      have HY12 := Lib.hid hy12
      have HP12 := Lib.hid (how10.ext hx1012)
      have HZ12 := Lib.hid (HZ8.out.ext hx812)
      have HO12 := Lib.hid (HO8.out.ext hx812)
      have HJ12 := Lib.hid (HJ8.out.ext hx812)
      have hNW := (HJ12.out.ext ((Ext.refl w12).alloc (.cells #[] 9))).news
      have HNW := Lib.hid hNW
      clear hNW hx9' hx10 hx1012 hx812 hy hx11 hk12 hy12 hf10 how10 own9 HJC HJ8 HZ8 HO8 HPB
      go_upto_region 18 with (first
        | (at_builtin; refine wpList_appK rfl (.tmp 68) (.tmp 69) 43 rfl w12.heap.size 9 (.string ⟨#[]⟩) 16 Tryd.underlying43 info_str rfl _ _ (J.map Value.string) rfl (own_lit0 w12) HNW.out (by intro u hu; obtain ⟨x, _, rfl⟩ := List.mem_map.1 hu; rfl) (by rw [List.length_map]; simp only [List.length_map, List.length_nil]; omega) (by rw [List.length_map]; simp only [List.length_map, List.length_nil]; omega) (by rw [World.size_alloc]; omega) ?_; intro v13 w13 own13 hg13 _ _; have hK13 := (Keeps.refl (fun k => k = w12.heap.size) (w12.alloc (.cells #[] 9))).grown hg13 (fun k hk => .inr (by injection hk with hk; exact hk.symm)); have hx13 : Ext w12 w13 := ((Ext.refl w12).alloc (.cells #[] 9)).keeps hK13 (fun _ h1 h2 => by omega); have hs1213 := hx13.size; rw [List.map_nil, List.nil_append] at own13; obtain ⟨A13, c13, hv13, hlc13⟩ := own13.shape; rw [List.length_map] at hv13 hlc13; subst hv13)
        | (at_builtin; refine wpList_appK rfl (.tmp 70) (.tmp 72) 43 rfl w12.heap.size 9 (.string ⟨#[]⟩) 16 Tryd.underlying43 info_str rfl _ _ ([(⟨#[45, 101]⟩ : ByteArray), t].map Value.string) rfl (own13.ext ((Ext.refl w13).alloc (.cells #[.string ⟨#[45, 101]⟩, .string t] 9))) (.inr ⟨⟨w13.heap.size, 0, none⟩, 2, rfl, two_cells⟩) (by intro u hu; obtain ⟨x, _, rfl⟩ := List.mem_map.1 hu; rfl) (by rw [List.length_map]; simp only [List.length_map, List.length_cons, List.length_nil]; omega) (by rw [List.length_map]; simp only [List.length_map, List.length_cons, List.length_nil]; omega) (by rw [World.size_alloc]; omega) ?_; intro v14 w14 own14 hg14 _ _; have hK14 := (Keeps.refl (fun i => (Value.slice A13 J.length c13).ownBlock = some i) (w13.alloc (.cells #[.string ⟨#[45, 101]⟩, .string t] 9))).grown hg14 (fun k hk => .inr hk); have hx14 : Ext w12 w14 := (hx13.alloc _).keeps hK14 (fun i h1 h2 => by have := own13.own i h2; omega); have hr14 : RdT w14 v14 (J ++ [⟨#[45, 101]⟩, t]) := RdT.of_own (by rw [List.map_append]; exact own14))
        | (go_at_call 30; refine (HPC.out _ _ hr14 (HX12.out.trans hx14)).mono ?_; rintro e w15 ⟨ov15, ev15, rfl, hx15, ⟨pv15, ps15, rfl, how15, hps15⟩, hf15⟩)
        | (refine wpl_allocOp rfl rfl ?_; intro x w16 hx hx16 hxx0 hxl)
        | (refine wpl_storeOp rfl _ _ rfl rfl x ro zeroO pv15 (.slice none 0 0) rfl rfl (own_isS how15) hx ?_; intro w17 hx17 hk17))
      have hx1517 : Ext w15 w17 := hx16.keeps hk17 (fun _ h1 h2 => by omega)
      have hx1217 : Ext w12 w17 := hx14.trans (hx15.trans hx1517)
      have HX17 := Lib.hid (HX12.out.trans hx1217)
      have e15 : ev15 = .nilIface := hf15.nil
      subst e15
      have eb : ps10 = ps6 := byB_map_inj (hps10.trans hps6.symm)
      have ec : ps15 = ps6 := byB_map_inj (hps15.trans hps6.symm)
      subst eb ec
      have HXF := Lib.hid hx17
      have HYF := Lib.hid (HY12.out.ext hx1217)
      have HZF := Lib.hid (HZ12.out.ext hx1217)
      have HRA := Lib.hid (HO12.out.ext hx1217)
      have HRB := Lib.hid (HP12.out.ext hx1217)
      have HRC := Lib.hid (how15.ext hx1517)
      have hpm : ps15.map byB = partsP (byB t) := hps15.trans HRP.out
      have hpn : ps15.length ≤ t.size + 1 := by
        have h1 := partsP_len (byB t)
        rw [← hpm, List.length_map, byB_len] at h1
        exact h1
      have hp0 : 0 < ps15.length := by
        rcases Nat.eq_zero_or_pos ps15.length with h | h
        · rw [List.eq_nil_of_length_eq_zero h] at hpm
          exact absurd hpm.symm (partsP_ne _)
        · exact h
      have HS1 := Lib.hid (fun W (hW : Ext w17 W) => same28_any ro ro ps15 ps15 pv6 pv10 W (RdT.of_own (HRA.out.ext hW)) (RdT.of_own (HRB.out.ext hW)) (by omega))
      have HS2 := Lib.hid (fun W (hW : Ext w17 W) => same28_any ro ro ps15 ps15 pv6 pv15 W (RdT.of_own (HRA.out.ext hW)) (RdT.of_own (HRC.out.ext hW)) (by omega))
      simp only [sameH_self, decide_true, Bool.and_self] at HS1 HS2
      rcases HRA.out.slice with ⟨_, h0⟩ | ⟨ga, ca, cura, hva, _, hba, hlca, _, _⟩
      · have := congrArg List.length h0
        rw [List.length_map, List.length_nil] at this
        omega
      rw [List.length_map] at hva hlca
      subst hva
      have HJN : Hid (∀ W, Ext w17 W → Calls Tryd.prog 52 #[.slice (some ⟨ga, 0, none⟩) ps15.length ca, .string ⟨#[10]⟩] W fun e w' => e = .returned (.string t) ∧ Ext W w') := Lib.hid (fun W hW => by
        have ej : Lib.join (ps15.map (·.data.toList)) [10] = byB t := by
          rw [← lib_join (byB t), ← hpm]
          rfl
        have h := Tryd.strings_Join ga 0 ca ps15 ⟨#[10]⟩ W (fun j x hj => by
          have := (HRA.out.ext hW).cells.2 j (.string x) (by rw [List.getElem?_map, hj]; rfl)
          rwa [Nat.zero_add]) ((hba.ext hW).lt) (by omega) hlca (by show (Lib.join (ps15.map (·.data.toList)) [10]).length ≤ _; rw [ej, byB_len]; omega)
        have e2 : (⟨(Lib.join (ps15.map (·.data.toList)) (⟨#[10]⟩ : ByteArray).data.toList).toArray⟩ : ByteArray) = t := by
          show (⟨(Lib.join (ps15.map (·.data.toList)) [10]).toArray⟩ : ByteArray) = t
          rw [ej]
          rfl
        rw [e2] at h
        exact h)
      have HC : Hid (∀ W, Ext w17 W → W.cell? ⟨z, 8, none⟩ = some (.slice (some ⟨ga, 0, none⟩) ps15.length ca) ∧ W.cell? ⟨z, 7, none⟩ = some (.int .i64 (-1))) := Lib.hid (fun W hW => ⟨(HZF.out.ext hW).cell 8, by rw [← HRM.out]; exact (HZF.out.ext hW).cell 7⟩)
      have e98 : (t.toList == t.toList) = true := by simp
      have HE98 := Lib.hid e98
      clear e98 hx15 hx1517 hx1217 hx14 hx13 hK13 hK14 hg13 hg14 own13 own14 hr14 hx hx16 hk17 hx17 hf15 how15 hps6 hps10 hps15 hpm hba HNW HPC HJ12 hlc13
      go_wp2_with (first
        | (refine wpl_loadOp rfl _ rfl z 0 ro _ rfl (Blk.opAt HZF.out) ?_)
        | (refine wpl_loadOp rfl _ rfl y 0 ro _ rfl (Blk.opAt HYF.out) ?_)
        | (refine wpList_unguard rfl ?_; refine wpl_loadOp rfl _ rfl z 0 ro _ rfl (Blk.opAt (HZF.out.ext hx18)) ?_)
        | (refine wpList_unguard rfl ?_; refine wpl_loadOp rfl _ rfl x 0 ro _ rfl (Blk.opAt (HXF.out.ext hx18)) ?_)
        | (go_at_call 33; with_reducible refine (HS1.out _ (Ext.refl _)).mono ?_; rintro e w18 ⟨rfl, hx18⟩)
        | (go_at_call 33; with_reducible refine (HS2.out _ hx18).mono ?_; rintro e w19 ⟨rfl, hx19⟩; obtain ⟨c97, _⟩ := HC.out _ (hx18.trans hx19))
        | (go_at_call 52; refine (HJN.out _ (hx18.trans hx19)).mono ?_; rintro e w20 ⟨rfl, hx20⟩; obtain ⟨_, c104⟩ := HC.out _ ((hx18.trans hx19).trans hx20); have e98 := HE98.out))
      go_ret
      exact ⟨rfl, HX17.out.trans ((hx18.trans hx19).trans hx20)⟩

end Go.Proofs.YtkcgbdoplhgbmaaDoor
