/- The order of parses in plain words: it is an order. No program. cmp.Compare and cmp.Or of ints, rank.Compare, trawlref12.Compare, trawlnum.SameParse as contracts. Condition: the parses lie in memory, the first one's lists are short. List literals of two nodes, of one parse, of two parses. No condition. The fixed facts of layer 12's statements as a contract. Condition: the error values lie where they lie. -/
import Derived.Test.YthddlhpndaffjaaDoorPsP
import Derived.Test.YthddlhpndaffjaaDoorPsW
import Derived.Test.YthddlhpndaffjaaDoorTail
import Derived.BigQuiet
import Derived.Test.YthddlhpndaffjaaDoorNum
import Derived.Great.BuildSlice
import Derived.Test.YthddlhpndaffjaaDoorSpans
import Derived.Test.YthddlhpndaffjaaDoorSmSp
import Derived.Test.YthddlhpndaffjaaDoorExpQ
import Derived.Deep.RegionHeld3
namespace Go.Proofs.YthddlhpndaffjaaDoor

def cmpI (x y : Int) : Int := if x < y then -1 else if y < x then 1 else 0
def lexI (x y : Int) : Int := if x = 0 then y else x
def cmpH (d d' : Pd) : Int := lexI (cmpI d.a d'.a) (lexI (cmpI d'.b d.b) (cmpI d.k d'.k))
mutual
def cmpN : Ps → Ps → Int
  | .mk d s, .mk d' s' => lexI (lexI (cmpH d d') (cmpL s s')) (cmpI s'.length s.length)
def cmpL : List Ps → List Ps → Int
  | [], _ => 0
  | _ :: _, [] => 0
  | a :: r, b :: r' => lexI (cmpN a b) (cmpL r r')
end
mutual
def samePs : Ps → Ps → Bool
  | .mk d s, .mk d' s' => decide (d.a = d'.a ∧ d.b = d'.b ∧ d.k = d'.k) && decide (s.length = s'.length) && samePL s s'
def samePL : List Ps → List Ps → Bool
  | [], _ => true
  | _ :: _, [] => true
  | a :: r, b :: r' => samePs a b && samePL r r'
end
theorem cmpI_zero (x y : Int) : cmpI x y = 0 ↔ x = y := by unfold cmpI; split <;> (try split) <;> omega
theorem cmpI_anti (x y : Int) : cmpI y x = -cmpI x y := by unfold cmpI; split <;> split <;> (try split) <;> omega
theorem cmpI_rng (x y : Int) : -1 ≤ cmpI x y ∧ cmpI x y ≤ 1 := by unfold cmpI; split <;> (try split) <;> omega
theorem lexI_assoc (x y z : Int) : lexI (lexI x y) z = lexI x (lexI y z) := by unfold lexI; split <;> (try split) <;> simp_all
theorem lexI_neg (x y : Int) : lexI (-x) (-y) = -lexI x y := by unfold lexI; split <;> split <;> omega
theorem lexI_rng {x y : Int} (hx : -1 ≤ x ∧ x ≤ 1) (hy : -1 ≤ y ∧ y ≤ 1) : -1 ≤ lexI x y ∧ lexI x y ≤ 1 := by unfold lexI; split <;> omega
theorem lexI_zero (x y : Int) : lexI x y = 0 ↔ x = 0 ∧ y = 0 := by unfold lexI; split <;> omega
theorem cmpL_app : ∀ (a b c d : List Ps), a.length = b.length → cmpL (a ++ c) (b ++ d) = lexI (cmpL a b) (cmpL c d)
  | [], [], _, _, _ => by simp [cmpL, lexI]
  | x :: a, y :: b, c, d, h => by
    show cmpL (x :: (a ++ c)) (y :: (b ++ d)) = _
    rw [cmpL, cmpL, cmpL_app a b c d (by simpa using h), lexI_assoc]
  | [], _ :: _, _, _, h => by cases h
  | _ :: _, [], _, _, h => by cases h
theorem cmpL_one (a b : Ps) : cmpL [a] [b] = cmpN a b := by rw [cmpL, cmpL]; unfold lexI; split <;> omega
theorem cmpH_rng (d d' : Pd) : -1 ≤ cmpH d d' ∧ cmpH d d' ≤ 1 := lexI_rng (cmpI_rng _ _) (lexI_rng (cmpI_rng _ _) (cmpI_rng _ _))
mutual
theorem cmpN_rng : ∀ (a b : Ps), -1 ≤ cmpN a b ∧ cmpN a b ≤ 1
  | .mk d s, .mk d' s' => by rw [cmpN]; exact lexI_rng (lexI_rng (cmpH_rng _ _) (cmpL_rng s s')) (cmpI_rng _ _)
theorem cmpL_rng : ∀ (a b : List Ps), -1 ≤ cmpL a b ∧ cmpL a b ≤ 1
  | [], _ => by rw [cmpL]; omega
  | _ :: _, [] => by rw [cmpL]; omega
  | a :: r, b :: r' => by rw [cmpL]; exact lexI_rng (cmpN_rng a b) (cmpL_rng r r')
end
theorem cmpH_anti (d d' : Pd) : cmpH d' d = -cmpH d d' := by
  unfold cmpH
  rw [cmpI_anti d.a d'.a, cmpI_anti d'.b d.b, cmpI_anti d.k d'.k, lexI_neg, lexI_neg]
mutual
theorem cmpN_anti : ∀ (a b : Ps), cmpN b a = -cmpN a b
  | .mk d s, .mk d' s' => by rw [cmpN, cmpN, cmpH_anti d d', cmpL_anti s s', cmpI_anti (s'.length : Int) s.length, lexI_neg, lexI_neg]
theorem cmpL_anti : ∀ (a b : List Ps), cmpL b a = -cmpL a b
  | [], [] => by simp [cmpL]
  | [], _ :: _ => by simp [cmpL]
  | _ :: _, [] => by simp [cmpL]
  | a :: r, b :: r' => by rw [cmpL, cmpL, cmpN_anti a b, cmpL_anti r r', lexI_neg]
end
theorem cmpH_zero (d d' : Pd) : cmpH d d' = 0 ↔ (d.a = d'.a ∧ d.b = d'.b ∧ d.k = d'.k) := by
  unfold cmpH
  rw [lexI_zero, lexI_zero, cmpI_zero, cmpI_zero, cmpI_zero]
  constructor
  · rintro ⟨h1, h2, h3⟩; exact ⟨h1, h2.symm, h3⟩
  · rintro ⟨h1, h2, h3⟩; exact ⟨h1, h2.symm, h3⟩
mutual
theorem cmpN_same : ∀ (a b : Ps), samePs a b = decide (cmpN a b = 0)
  | .mk d s, .mk d' s' => by
    rw [Bool.eq_iff_iff]
    rw [samePs, cmpN, Bool.and_eq_true, Bool.and_eq_true, cmpL_same s s', decide_eq_true_eq, decide_eq_true_eq, decide_eq_true_eq, decide_eq_true_eq, lexI_zero, lexI_zero, cmpH_zero, cmpI_zero]
    constructor
    · rintro ⟨⟨h1, h2⟩, h3⟩; exact ⟨⟨h1, h3⟩, by omega⟩
    · rintro ⟨⟨h1, h3⟩, h2⟩; exact ⟨⟨h1, by omega⟩, h3⟩
theorem cmpL_same : ∀ (a b : List Ps), samePL a b = decide (cmpL a b = 0)
  | [], _ => by simp [samePL, cmpL]
  | _ :: _, [] => by simp [samePL, cmpL]
  | a :: r, b :: r' => by
    rw [samePL, cmpL, cmpN_same a b, cmpL_same r r', Bool.eq_iff_iff, Bool.and_eq_true, decide_eq_true_eq, decide_eq_true_eq, decide_eq_true_eq, lexI_zero]
end
mutual
theorem samePs_eq : ∀ (a b : Ps), samePs a b = true → a = b
  | .mk ⟨x, y, z⟩ s, .mk ⟨x', y', z'⟩ s', h => by
    rw [samePs, Bool.and_eq_true, Bool.and_eq_true, decide_eq_true_eq, decide_eq_true_eq] at h
    obtain ⟨⟨⟨h1, h2, h3⟩, h4⟩, h5⟩ := h
    simp only at h1 h2 h3
    rw [h1, h2, h3, samePL_eq s s' h4 h5]
theorem samePL_eq : ∀ (a b : List Ps), a.length = b.length → samePL a b = true → a = b
  | [], [], _, _ => rfl
  | a :: r, b :: r', hl, h => by
    rw [samePL, Bool.and_eq_true] at h
    rw [samePs_eq a b h.1, samePL_eq r r' (by simpa using hl) h.2]
  | [], _ :: _, h, _ => by cases h
  | _ :: _, [], h, _ => by cases h
end
theorem cmpN_eq {a b : Ps} (h : cmpN a b = 0) : a = b := samePs_eq a b (by rw [cmpN_same]; simpa using h)
theorem cmpN_refl (a : Ps) : cmpN a a = 0 := by
  have := cmpN_anti a a
  omega
/-- Both lists, the longer one better where one begins the other. -/
def cmpF (s s' : List Ps) : Int := lexI (cmpL s s') (cmpI s'.length s.length)
theorem cmpF_cons (a b : Ps) (r r' : List Ps) : cmpF (a :: r) (b :: r') = lexI (cmpN a b) (cmpF r r') := by
  unfold cmpF
  rw [cmpL, lexI_assoc]
  congr 2
  unfold cmpI
  simp only [List.length_cons]
  split <;> split <;> (try split) <;> (try split) <;> omega
theorem cmpN_F (d d' : Pd) (s s' : List Ps) : cmpN (.mk d s) (.mk d' s') = lexI (cmpH d d') (cmpF s s') := by rw [cmpN, lexI_assoc]; rfl
theorem cmpI_less {x y : Int} : cmpI x y = -1 ↔ x < y := by unfold cmpI; split <;> (try split) <;> omega
theorem lexI_less (x y : Int) : lexI x y = -1 ↔ x = -1 ∨ (x = 0 ∧ y = -1) := by unfold lexI; split <;> omega
theorem cmpH_less (d d' : Pd) : cmpH d d' = -1 ↔ d.a < d'.a ∨ (d.a = d'.a ∧ (d'.b < d.b ∨ (d'.b = d.b ∧ d.k < d'.k))) := by
  unfold cmpH
  rw [lexI_less, lexI_less, cmpI_less, cmpI_less, cmpI_less, cmpI_zero, cmpI_zero]
theorem cmpH_trans {a b c : Pd} (h : cmpH a b = -1) (k : cmpH b c = -1) : cmpH a c = -1 := by
  rw [cmpH_less] at *
  omega
theorem cmpH_l {a b c : Pd} (h : cmpH a b = 0) : cmpH a c = cmpH b c := by
  obtain ⟨h1, h2, h3⟩ := (cmpH_zero _ _).1 h
  unfold cmpH
  rw [h1, h2, h3]
theorem cmpH_r {a b c : Pd} (h : cmpH b c = 0) : cmpH a b = cmpH a c := by
  obtain ⟨h1, h2, h3⟩ := (cmpH_zero _ _).1 h
  unfold cmpH
  rw [h1, h2, h3]
mutual
theorem cmpN_trans : ∀ (a b c : Ps), cmpN a b = -1 → cmpN b c = -1 → cmpN a c = -1
  | .mk d s, .mk d' s', .mk d'' s'', h, k => by
    rw [cmpN_F, lexI_less] at *
    rcases h with h | ⟨h, h'⟩
    · rcases k with k | ⟨k, k'⟩
      · exact .inl (cmpH_trans h k)
      · exact .inl ((cmpH_r k).symm.trans h)
    · rcases k with k | ⟨k, k'⟩
      · exact .inl ((cmpH_l h).trans k)
      · exact .inr ⟨(cmpH_l h).trans k, cmpF_trans s s' s'' h' k'⟩
theorem cmpF_trans : ∀ (a b c : List Ps), cmpF a b = -1 → cmpF b c = -1 → cmpF a c = -1
  | [], [], _, h, k => by simp [cmpF, cmpL, lexI, cmpI] at h
  | [], b :: r', _, h, k => by simp [cmpF, cmpL, lexI, cmpI] at h; omega
  | a :: r, [], [], h, k => by simp [cmpF, cmpL, lexI, cmpI] at k
  | a :: r, [], c :: r'', h, k => by simp [cmpF, cmpL, lexI, cmpI] at k; omega
  | a :: r, b :: r', [], h, k => by simp [cmpF, cmpL, lexI, cmpI]
  | a :: r, b :: r', c :: r'', h, k => by
    rw [cmpF_cons, lexI_less] at *
    rcases h with h | ⟨h, h'⟩
    · rcases k with k | ⟨k, k'⟩
      · exact .inl (cmpN_trans a b c h k)
      · exact .inl (cmpN_eq k ▸ h)
    · rcases k with k | ⟨k, k'⟩
      · exact .inl ((cmpN_eq h).symm ▸ k)
      · exact .inr ⟨(cmpN_eq h).symm ▸ k, cmpF_trans r r' r'' h' k'⟩
end
theorem cmpN_less {a b : Ps} (h : cmpN a b < 0) : cmpN a b = -1 := by have := cmpN_rng a b; omega
/-- Passed on to a third. -/
theorem cmpN_le {a b c : Ps} (h : cmpN a b ≤ 0) (k : cmpN b c ≤ 0) : cmpN a c ≤ 0 := by
  rcases Int.lt_or_eq_of_le h with h | h
  · rcases Int.lt_or_eq_of_le k with k | k
    · rw [cmpN_trans a b c (cmpN_less h) (cmpN_less k)]; decide
    · rw [← cmpN_eq k]; omega
  · rw [cmpN_eq h]; exact k
theorem cmpN_lt {a b c : Ps} (h : cmpN a b < 0) (k : cmpN b c ≤ 0) : cmpN a c < 0 := by
  rcases Int.lt_or_eq_of_le k with k | k
  · rw [cmpN_trans a b c (cmpN_less h) (cmpN_less k)]; decide
  · rw [← cmpN_eq k]; exact h

end Go.Proofs.YthddlhpndaffjaaDoor

namespace Go.Proofs.YthddlhpndaffjaaDoor
open Go Go.RowKit

set_option maxHeartbeats 400000 in
theorem isNaN_any (x : Int) (w : World) : Calls Tryd.prog 101 #[.int .i64 x] w fun r w' => r = .returned (.bool false) ∧ w = w' := by
  have h : (x != x) = false := by simp
  go_enter Tryd.func101, Tryd.ntmps101
  go_wp2
  go_ret
  exact ⟨rfl, rfl⟩

set_option maxHeartbeats 400000 in
theorem cmpC_any (x y : Int) (w : World) : Calls Tryd.prog 71 #[.int .i64 x, .int .i64 y] w fun r w' => r = .returned (.int .i64 (cmpI x y)) ∧ w = w' := by
  have HN := Lib.hid (fun x W => isNaN_any x W)
  have HR := Lib.hid (show cmpI x y = if x < y then -1 else if y < x then 1 else 0 from rfl)
  generalize cmpI x y = r at *
  by_cases h1 : x < y
  · go_enter Tryd.func71, Tryd.ntmps71
    go_wp2_with (go_at_call 101; refine (HN.out _ _).mono ?_; rintro e w1 ⟨rfl, rfl⟩)
    go_ret
    exact ⟨by rw [HR.out, if_pos h1]; rfl, rfl⟩
  · by_cases h2 : y < x
    · go_enter Tryd.func71, Tryd.ntmps71
      go_wp2_with (go_at_call 101; refine (HN.out _ _).mono ?_; rintro e w1 ⟨rfl, rfl⟩)
      go_ret
      exact ⟨by rw [HR.out, if_neg (Int.not_lt.2 h1), if_pos h2]; rfl, rfl⟩
    · go_enter Tryd.func71, Tryd.ntmps71
      go_wp2_with (go_at_call 101; refine (HN.out _ _).mono ?_; rintro e w1 ⟨rfl, rfl⟩)
      go_ret
      exact ⟨by rw [HR.out, if_neg (Int.not_lt.2 h1), if_neg (Int.not_lt.2 h2)]; rfl, rfl⟩

/-- The first that isn't 0. -/
def orL : List Int → Int
  | [] => 0
  | x :: r => if x = 0 then orL r else x
theorem orL_skip : ∀ (l : List Int) (k : Nat), (∀ j, j < k → l.getD j 0 = 0) → orL l = orL (l.drop k)
  | l, 0, _ => by simp
  | [], k + 1, _ => by simp
  | x :: r, k + 1, h => by
    have := h 0 (by omega)
    rw [List.getD_cons_zero] at this
    rw [List.drop_succ_cons, orL, if_pos this]
    exact orL_skip r k (fun j hj => by have := h (j + 1) (by omega); rwa [List.getD_cons_succ] at this)

set_option maxHeartbeats 1000000 in
theorem or_any (v : Value) (l : List Int) (w : World) (hm : l.length ≤ 1000000) (hv : RdI w v l) :
    Calls Tryd.prog 70 #[v] w fun r w' => r = .returned (.int .i64 (orL l)) ∧ w = w' := by
  obtain ⟨A, c, rfl, hc⟩ := hv
  have HC := Lib.hid hc
  clear hc
  go_enter Tryd.func70, Tryd.ntmps70
  go_wp2
  go_loopw [8] (fun i wr => ∃ k : Nat, k ≤ l.length ∧ i = .int .i64 k ∧ Hid (∀ j, j < k → l.getD j 0 = 0) ∧ w = wr) (fun i _ => l.length - (intOf i).toNat)
  case atStart => exact ⟨0, Nat.zero_le _, rfl, Lib.hid (fun j hj => by omega), rfl⟩
  case round =>
    obtain ⟨k, hk, rfl, hq, rfl⟩ := hrel
    by_cases hlt : k < l.length
    · obtain ⟨g, o, rfl, h1⟩ := HC.out k hlt
      have h2 := orL_skip l k hq.out
      rw [List.drop_eq_getElem_cons hlt] at h2
      have hx : l[k] = l.getD k 0 := by rw [List.getD_eq_getElem?_getD, List.getElem?_eq_getElem hlt]; rfl
      rw [hx] at h2
      generalize l.getD k 0 = x at *
      have HX := Lib.hid hx
      have H2 := Lib.hid h2
      clear hx h2 HC
      by_cases h0 : x = 0
      · have e0 : (x != 0) = false := by simpa using h0
        have H0 := Lib.hid h0
        clear h0
        go_wp2
        go_roundw
        case rel =>
          refine ⟨k + 1, hlt, by go_num, Lib.hid (fun j hj => ?_), trivial⟩
          rcases Nat.lt_or_ge j k with hjk | hjk
          · exact hq.out j hjk
          · have : j = k := by omega
            rw [this, List.getD_eq_getElem?_getD, List.getElem?_eq_getElem hlt]
            exact HX.out.trans H0.out
        case measure => simp [intOf]; omega
      · have e0 : (x != 0) = true := by simpa using h0
        have HR := Lib.hid (show orL l = x by rw [H2.out, orL, if_neg h0])
        clear H2 h0
        go_wp2
        go_ret
        exact ⟨by rw [HR.out]; rfl, rfl⟩
    · have h2 := orL_skip l k hq.out
      rw [List.drop_eq_nil_of_le (by omega)] at h2
      have H2 := Lib.hid h2
      clear h2 HC
      go_wp2
      go_ret
      exact ⟨by rw [H2.out]; rfl, rfl⟩

theorem lexI_self (x : Int) : lexI x 0 = x := by unfold lexI; split <;> omega
theorem or3 {W : World} {g : Nat} {t : TypeId} {x y z : Int} (h : Blk W g t #[.int .i64 x, .int .i64 y, .int .i64 z]) : Calls Tryd.prog 70 #[.slice (some ⟨g, 0, none⟩) 3 3] W fun r w' => r = .returned (.int .i64 (lexI x (lexI y z))) ∧ W = w' := by
  have := or_any _ [x, y, z] W (by simp) (RdI.of_blk (c := 3) (l := [x, y, z]) h)
  have e : orL [x, y, z] = lexI x (lexI y z) := by
    unfold lexI
    simp only [orL]
    by_cases h1 : x = 0 <;> by_cases h2 : y = 0 <;> by_cases h3 : z = 0 <;> simp [h1, h2, h3]
  rw [e] at this
  exact this
theorem or2i {W : World} {g : Nat} {t : TypeId} {x y : Int} (h : Blk W g t #[.int .i64 x, .int .i64 y]) : Calls Tryd.prog 70 #[.slice (some ⟨g, 0, none⟩) 2 2] W fun r w' => r = .returned (.int .i64 (lexI x y)) ∧ W = w' := by
  have := or_any _ [x, y] W (by simp) (RdI.of_blk (c := 2) (l := [x, y]) h)
  have e : orL [x, y] = lexI x y := by
    unfold lexI
    simp only [orL]
    by_cases h1 : x = 0 <;> by_cases h2 : y = 0 <;> simp [h1, h2]
  rw [e] at this
  exact this
theorem cmpL_step {s s' : List Ps} {k : Nat} (h : k < s.length) (h' : k < s'.length) (ht : cmpL (s.take k) (s'.take k) = 0) : cmpL (s.take (k + 1)) (s'.take (k + 1)) = cmpN s[k] s'[k] := by
  rw [take_snoc s k h, take_snoc s' k h', cmpL_app _ _ _ _ (by simp; omega), ht, cmpL_one]
  rfl
theorem cmpL_stop {s s' : List Ps} {k : Nat} (hk : k ≤ s.length) (hk' : k ≤ s'.length) (hd : cmpL (s.take k) (s'.take k) ≠ 0 ∨ s.length = k ∨ s'.length = k) : cmpL s s' = cmpL (s.take k) (s'.take k) := by
  have e := cmpL_app (s.take k) (s'.take k) (s.drop k) (s'.drop k) (by simp; omega)
  rw [List.take_append_drop, List.take_append_drop] at e
  rw [e]
  rcases hd with h | h | h
  · unfold lexI; rw [if_neg h]
  · rw [List.drop_eq_nil_of_le (by omega), cmpL, lexI_self]
  · rw [List.drop_eq_nil_of_le (show s'.length ≤ k by omega)]
    have : cmpL (s.drop k) [] = 0 := by cases s.drop k <;> simp [cmpL]
    rw [this, lexI_self]

set_option maxRecDepth 100000 in
set_option maxHeartbeats 8000000 in
theorem compare_any : ∀ (a : Ps) (sva : Value) (b : Ps) (svb : Value) (w : World), PsOk w a sva → PsOk w b svb → smallP a →
    Calls Tryd.prog 44 #[psV a.d sva, psV b.d svb] w fun r w' => r = .returned (.int .i64 (cmpN a b)) ∧ Ext w w' := by
  refine Ps.ind fun hd subs ih sva b svb w hn hn' hsm => ?_
  obtain ⟨hd', subs'⟩ := b
  obtain ⟨A, c, rfl⟩ := hn.shape
  obtain ⟨A', c', rfl⟩ := hn'.shape
  obtain ⟨hlen, hsm⟩ := hsm
  have IH := Lib.hid (fun n hm sv b svb w hn hn' => ih n hm sv b svb w hn hn' (smallPL_mem hsm n hm))
  have HN := Lib.hid hn
  have HN' := Lib.hid hn'
  have HR := Lib.hid (by rw [cmpN] : cmpN (.mk hd subs) (.mk hd' subs') = lexI (lexI (cmpH hd hd') (cmpL subs subs')) (cmpI subs'.length subs.length))
  have HC := Lib.hid (fun x y W => cmpC_any x y W)
  clear ih hsm hn hn'
  generalize cmpN (.mk hd subs) (.mk hd' subs') = res at *
  simp only [Ps.d, Ps.subs] at *
  go_enter Tryd.func44, Tryd.ntmps44
  go_upto_region 1 with (first
    | (refine wpl_boxPs rfl _ rfl hd _ rfl ?_; intro x w1 hb hx1 ex sx)
    | (refine wpl_boxPs rfl _ rfl hd' _ rfl ?_; intro y w2 hc hx2 ey sy))
  have hb2 := hb.ext hx2
  have hx12 := hx1.trans hx2
  clear hb hx1 hx2 ex sx ey sy
  have p0 := cell_plus (show w2.cell? ⟨x, 0, none⟩ = some (.int .i64 hd.a) from hb2.cell 0)
  have p1 := cell_plus (show w2.cell? ⟨x, 1, none⟩ = some (.int .i64 hd.b) from hb2.cell 1)
  have p2 := cell_plus (show w2.cell? ⟨x, 2, none⟩ = some (.int .i64 hd.k) from hb2.cell 2)
  have q0 := cell_plus (show w2.cell? ⟨y, 0, none⟩ = some (.int .i64 hd'.a) from hc.cell 0)
  have q1 := cell_plus (show w2.cell? ⟨y, 1, none⟩ = some (.int .i64 hd'.b) from hc.cell 1)
  have q2 := cell_plus (show w2.cell? ⟨y, 2, none⟩ = some (.int .i64 hd'.k) from hc.cell 2)
  have c3 : w2.cell? ⟨x, 3, none⟩ = some (.slice A subs.length c) := hb2.cell 3
  have d3 : w2.cell? ⟨y, 3, none⟩ = some (.slice A' subs'.length c') := hc.cell 3
  have HH := Lib.hid (show cmpH hd hd' = lexI (cmpI hd.a hd'.a) (lexI (cmpI hd'.b hd.b) (cmpI hd.k hd'.k)) from rfl)
  generalize cmpH hd hd' = ch at *
  clear hb2 hc
  refine wp_region_plus_tail 15 (by kernel_rfl) (by kernel_rfl) ?_
  simp only [List.take_succ_cons, List.take_zero, List.drop_succ_cons, List.drop_zero]
  repeat (go_big_quiet_step ((go_at_call 71; exact Calls.plus_of_same (HC.out _ _ _))))
  refine wpQuiet_nil ?_
  intro z
  clear p0 p1 p2 q0 q1 q2
  go_upto_region 3 with (go_at_call 70; refine (or3 (Blk.new _ _ _)).mono ?_; rintro e w3 ⟨rfl, rfl⟩)
  rw [← HH.out]
  have hx3 := (hx12.trans (plus_ext w2 z)).alloc (.cells #[.int .i64 (cmpI hd.a hd'.a), .int .i64 (cmpI hd'.b hd.b), .int .i64 (cmpI hd.k hd'.k)] 3)
  have hx23 := (plus_ext w2 z).alloc (.cells #[.int .i64 (cmpI hd.a hd'.a), .int .i64 (cmpI hd'.b hd.b), .int .i64 (cmpI hd.k hd'.k)] 3)
  generalize (plus w2 z).alloc (.cells #[.int .i64 (cmpI hd.a hd'.a), .int .i64 (cmpI hd'.b hd.b), .int .i64 (cmpI hd.k hd'.k)] 3) = w3 at *
  replace c3 := hx23.cell c3
  replace d3 := hx23.cell d3
  clear hx23 hx12 HH
  have hx33 := Ext.refl w3
  go_loopw [5, 6] (fun cv i wr => ∃ k : Nat, k ≤ subs.length ∧ k ≤ subs'.length ∧ i = .int .i64 k ∧ cv = .int .i64 (lexI ch (cmpL (subs.take k) (subs'.take k))) ∧ Ext w3 wr) (fun _ i _ => subs.length - (intOf i).toNat)
  case atStart => exact ⟨0, Nat.zero_le _, Nat.zero_le _, rfl, by rw [List.take_zero, List.take_zero, cmpL, lexI_self], hx33⟩
  case round =>
    clear hx33
    obtain ⟨k, hk, hk', rfl, rfl, hx⟩ := hrel
    replace c3 := hx.cell c3
    replace d3 := hx.cell d3
    replace hx3 := hx3.trans hx
    have fin : (lexI ch (cmpL (subs.take k) (subs'.take k)) ≠ 0 ∨ subs.length = k ∨ subs'.length = k) → res = lexI (lexI ch (cmpL (subs.take k) (subs'.take k))) (cmpI subs'.length subs.length) := fun h => by
      rw [HR.out]
      by_cases h0 : ch = 0
      · rw [cmpL_stop hk hk' (by
          rcases h with h | h
          · rw [h0] at h; unfold lexI at h; rw [if_pos rfl] at h; exact .inl h
          · exact .inr h)]
      · have e : ∀ y, lexI ch y = ch := fun y => if_neg h0
        simp only [e]
    by_cases hz : lexI ch (cmpL (subs.take k) (subs'.take k)) = 0
    · by_cases hlt : k < subs.length
      · by_cases hlt' : k < subs'.length
        · obtain ⟨hz1, hz2⟩ := (lexI_zero _ _).1 hz
          have HST := Lib.hid (show lexI ch (cmpL (subs.take (k + 1)) (subs'.take (k + 1))) = cmpN subs[k] subs'[k] by rw [cmpL_step hlt hlt' hz2, hz1]; rfl)
          obtain ⟨g0, o0, sv, rfl, hat, hok⟩ := HN.out.get k hlt
          obtain ⟨g1, o1, sv', rfl, hat', hok'⟩ := HN'.out.get k hlt'
          replace hat := (hat.ext hx3).drew
          replace hat' := (hat'.ext hx3).drew
          have IHk := Lib.hid (IH.out subs[k] (List.getElem_mem hlt) sv subs'[k] sv' wr.drew (hok.ext hx3.drewr) (hok'.ext hx3.drewr))
          clear IH HN HN' HR hok hok' fin hz1 hz2
          generalize lexI ch (cmpL (subs.take k) (subs'.take k)) = cv at *
          subst hz
          generalize cmpN subs[k] subs'[k] = pk at *
          generalize subs[k] = nk at *
          generalize subs'[k] = nk' at *
          have t1 : (k : Int) < (subs.length : Int) := by omega
          have t2 : (k : Int) < (subs'.length : Int) := by omega
          go_upto_region 5 with fail
          refine wp_region_still_tail 10 (by kernel_rfl) (by kernel_rfl) ?_
          simp only [List.take_succ_cons, List.take_zero, List.drop_succ_cons, List.drop_zero]
          repeat still_step
          refine wpStill_loadPs _ rfl rfl g0 (o0 + k * 4) _ sv rfl hat ?_
          repeat still_step
          refine wpStill_loadPs _ rfl rfl g1 (o1 + k * 4) _ sv' rfl hat' ?_
          repeat still_step
          refine wpStill_nil ?_
          change wpList _ _ _ _ _ wr.drew
          clear hat hat'
          go_wp2_with (go_at_call 44; refine IHk.out.mono ?_; rintro e w6 ⟨rfl, hx6⟩)
          go_roundw
          case rel => exact ⟨k + 1, by omega, by omega, by go_num, by rw [HST.out], hx.drewr.trans hx6⟩
          case measure => simp [intOf]; omega
        · have FIN := Lib.hid (fin (.inr (.inr (by omega))))
          have t1 : (k : Int) < (subs.length : Int) := by omega
          have t2 : ¬ (k : Int) < (subs'.length : Int) := by omega
          clear IH HN HN' HR fin
          generalize lexI ch (cmpL (subs.take k) (subs'.take k)) = cv at *
          subst hz
          go_wp2_with (first
            | (go_at_call 71; refine (HC.out _ _ _).mono ?_; rintro e w3 ⟨rfl, rfl⟩)
            | (go_at_call 70; refine (or2i (Blk.new _ _ _)).mono ?_; rintro e w3 ⟨rfl, rfl⟩))
          go_ret
          exact ⟨by rw [FIN.out]; rfl, hx3.alloc _⟩
      · have FIN := Lib.hid (fin (.inr (.inl (by omega))))
        have t1 : ¬ (k : Int) < (subs.length : Int) := by omega
        clear IH HN HN' HR fin
        generalize lexI ch (cmpL (subs.take k) (subs'.take k)) = cv at *
        subst hz
        go_wp2_with (first
          | (go_at_call 71; refine (HC.out _ _ _).mono ?_; rintro e w3 ⟨rfl, rfl⟩)
          | (go_at_call 70; refine (or2i (Blk.new _ _ _)).mono ?_; rintro e w3 ⟨rfl, rfl⟩))
        go_ret
        exact ⟨by rw [FIN.out]; rfl, hx3.alloc _⟩
    · have FIN := Lib.hid (fin (.inl hz))
      clear IH HN HN' HR fin
      generalize lexI ch (cmpL (subs.take k) (subs'.take k)) = cv at *
      have t1 : (cv == 0) = false := by simpa using hz
      go_wp2_with (first
        | (go_at_call 71; refine (HC.out _ _ _).mono ?_; rintro e w3 ⟨rfl, rfl⟩)
        | (go_at_call 70; refine (or2i (Blk.new _ _ _)).mono ?_; rintro e w3 ⟨rfl, rfl⟩))
      go_ret
      exact ⟨by rw [FIN.out]; rfl, hx3.alloc _⟩

theorem rcmp_fin {ch a b : Int} (h : lexI ch a ≠ 0) : lexI (lexI ch a) b = lexI ch a := by unfold lexI at *; rw [if_neg h]

set_option maxRecDepth 100000 in
set_option maxHeartbeats 8000000 in
theorem rcompare_any : ∀ (a : Ps) (sva : Value) (b : Ps) (svb : Value) (w : World), PsOk w a sva → PsOk w b svb → smallP a →
    Calls Tryd.prog 45 #[psV a.d sva, psV b.d svb] w fun r w' => r = .returned (.int .i64 (cmpN a b)) ∧ Ext w w' := by
  refine Ps.ind fun hd subs ih sva b svb w hn hn' hsm => ?_
  obtain ⟨hd', subs'⟩ := b
  obtain ⟨A, c, rfl⟩ := hn.shape
  obtain ⟨A', c', rfl⟩ := hn'.shape
  obtain ⟨hlen, hsm⟩ := hsm
  have IH := Lib.hid (fun n hm sv b svb w hn hn' => ih n hm sv b svb w hn hn' (smallPL_mem hsm n hm))
  have HN := Lib.hid hn
  have HN' := Lib.hid hn'
  have HR := Lib.hid (by rw [cmpN] : cmpN (.mk hd subs) (.mk hd' subs') = lexI (lexI (cmpH hd hd') (cmpL subs subs')) (cmpI subs'.length subs.length))
  clear ih hsm hn hn'
  generalize cmpN (.mk hd subs) (.mk hd' subs') = res at *
  simp only [Ps.d, Ps.subs] at *
  go_enter Tryd.func45, Tryd.ntmps45
  go_upto_region 1 with (first
    | (refine wpl_boxPs rfl _ rfl hd _ rfl ?_; intro x w1 hb hx1 ex sx)
    | (refine wpl_boxPs rfl _ rfl hd' _ rfl ?_; intro y w2 hc hx2 ey sy))
  have hb2 := hb.ext hx2
  have hx12 := hx1.trans hx2
  clear hb hx1 hx2 ex sx ey sy
  have c0 : w2.cell? ⟨x, 0, none⟩ = some (.int .i64 hd.a) := hb2.cell 0
  have c1 : w2.cell? ⟨x, 1, none⟩ = some (.int .i64 hd.b) := hb2.cell 1
  have c2 : w2.cell? ⟨x, 2, none⟩ = some (.int .i64 hd.k) := hb2.cell 2
  have c3 : w2.cell? ⟨x, 3, none⟩ = some (.slice A subs.length c) := hb2.cell 3
  have d0 : w2.cell? ⟨y, 0, none⟩ = some (.int .i64 hd'.a) := hc.cell 0
  have d1 : w2.cell? ⟨y, 1, none⟩ = some (.int .i64 hd'.b) := hc.cell 1
  have d2 : w2.cell? ⟨y, 2, none⟩ = some (.int .i64 hd'.k) := hc.cell 2
  have d3 : w2.cell? ⟨y, 3, none⟩ = some (.slice A' subs'.length c') := hc.cell 3
  clear hb2 hc
  have HH := Lib.hid (show cmpH hd hd' = lexI (cmpI hd.a hd'.a) (lexI (cmpI hd'.b hd.b) (cmpI hd.k hd'.k)) from rfl)
  obtain ⟨a, b, k⟩ := hd
  obtain ⟨a', b', k'⟩ := hd'
  simp only at *
  have hcase : (a < a' ∧ cmpH ⟨a, b, k⟩ ⟨a', b', k'⟩ = -1) ∨ (¬ a < a' ∧ a' < a ∧ cmpH ⟨a, b, k⟩ ⟨a', b', k'⟩ = 1) ∨ (a = a' ∧ b' < b ∧ cmpH ⟨a, b, k⟩ ⟨a', b', k'⟩ = -1) ∨ (a = a' ∧ ¬ b' < b ∧ b < b' ∧ cmpH ⟨a, b, k⟩ ⟨a', b', k'⟩ = 1) ∨
      (a = a' ∧ b = b' ∧ k < k' ∧ cmpH ⟨a, b, k⟩ ⟨a', b', k'⟩ = -1) ∨ (a = a' ∧ b = b' ∧ ¬ k < k' ∧ k' < k ∧ cmpH ⟨a, b, k⟩ ⟨a', b', k'⟩ = 1) ∨ (a = a' ∧ b = b' ∧ k = k' ∧ cmpH ⟨a, b, k⟩ ⟨a', b', k'⟩ = 0) := by
    have h := HH.out
    generalize cmpH ⟨a, b, k⟩ ⟨a', b', k'⟩ = t at *
    subst h
    unfold lexI cmpI
    split <;> (try split) <;> (try split) <;> (try split) <;> (try split) <;> (try split) <;> (try split) <;> omega
  clear HH
  generalize cmpH ⟨a, b, k⟩ ⟨a', b', k'⟩ = ch at *
  have other : ∀ z, ch = z → z ≠ 0 → res = z := fun z hz h0 => by
    rw [HR.out, hz]
    have e : ∀ y, lexI z y = z := fun y => if_neg h0
    rw [e, e]
  have OT := Lib.hid other
  clear other
  rcases hcase with ⟨h1, hz⟩ | ⟨h1, h2, hz⟩ | ⟨rfl, h1, hz⟩ | ⟨rfl, h1, h2, hz⟩ | ⟨rfl, rfl, h1, hz⟩ | ⟨rfl, rfl, h1, h2, hz⟩ | ⟨rfl, rfl, rfl, hz⟩
  iterate 6
    · have FIN := Lib.hid (OT.out _ hz (by decide))
      clear HR OT IH HN HN' hz
      go_wp2
      go_ret
      exact ⟨by rw [FIN.out]; rfl, hx12⟩
  have HR2 := Lib.hid (show res = lexI (cmpL subs subs') (cmpI subs'.length subs.length) by rw [HR.out, hz]; rfl)
  clear HR OT hz
  go_upto_region 14 with fail
  have hx22 := Ext.refl w2
  go_loopw [5] (fun i wr => ∃ k : Nat, k ≤ subs.length ∧ k ≤ subs'.length ∧ i = .int .i64 k ∧ cmpL (subs.take k) (subs'.take k) = 0 ∧ Ext w2 wr) (fun i _ => subs.length - (intOf i).toNat)
  case atStart => exact ⟨0, Nat.zero_le _, Nat.zero_le _, rfl, by rw [List.take_zero, List.take_zero, cmpL], hx22⟩
  case round =>
    clear hx22
    obtain ⟨k, hk, hk', rfl, hz, hx⟩ := hrel
    replace c3 := hx.cell c3
    replace d3 := hx.cell d3
    replace hx12 := hx12.trans hx
    have HZ := Lib.hid hz
    clear hz c0 c1 c2 d0 d1 d2
    by_cases hlt : k < subs.length
    · by_cases hlt' : k < subs'.length
      · have HST := Lib.hid (cmpL_step hlt hlt' HZ.out)
        have HSP := Lib.hid (cmpL_stop (k := k + 1) (s := subs) (s' := subs') (by omega) (by omega))
        obtain ⟨g0, o0, sv, rfl, hat, hok⟩ := HN.out.get k hlt
        obtain ⟨g1, o1, sv', rfl, hat', hok'⟩ := HN'.out.get k hlt'
        replace hat := (hat.ext hx12).drew
        replace hat' := (hat'.ext hx12).drew
        have IHk := Lib.hid (IH.out subs[k] (List.getElem_mem hlt) sv subs'[k] sv' wr.drew (hok.ext hx12.drewr) (hok'.ext hx12.drewr))
        clear IH HN HN' hok hok'
        generalize cmpN subs[k] subs'[k] = pk at *
        generalize subs[k] = nk at *
        generalize subs'[k] = nk' at *
        have t1 : (k : Int) < (subs.length : Int) := by omega
        have t2 : (k : Int) < (subs'.length : Int) := by omega
        go_upto_region 16 with fail
        refine wp_region_still_tail 10 (by kernel_rfl) (by kernel_rfl) ?_
        simp only [List.take_succ_cons, List.take_zero, List.drop_succ_cons, List.drop_zero]
        repeat still_step
        refine wpStill_loadPs _ rfl rfl g0 (o0 + k * 4) _ sv rfl hat ?_
        repeat still_step
        refine wpStill_loadPs _ rfl rfl g1 (o1 + k * 4) _ sv' rfl hat' ?_
        repeat still_step
        refine wpStill_nil ?_
        change wpList _ _ _ _ _ wr.drew
        clear hat hat'
        by_cases hp : pk = 0
        · have e1 : (pk != 0) = false := by simpa using hp
          have HP := Lib.hid hp
          clear hp
          go_wp2_with (go_at_call 45; refine IHk.out.mono ?_; rintro e w6 ⟨rfl, hx6⟩)
          go_roundw
          case rel => exact ⟨k + 1, by omega, by omega, by go_num, HST.out.trans HP.out, hx.drewr.trans hx6⟩
          case measure => simp [intOf]; omega
        · have e1 : (pk != 0) = true := by simpa using hp
          have FIN := Lib.hid (show res = pk by
            rw [HR2.out, HSP.out (.inl (by rw [HST.out]; exact hp)), HST.out]
            exact if_neg hp)
          clear HR2 HSP HST hp
          go_wp2_with (go_at_call 45; refine IHk.out.mono ?_; rintro e w6 ⟨rfl, hx6⟩)
          go_ret
          exact ⟨by rw [FIN.out]; rfl, hx12.drewr.trans hx6⟩
      · have FIN := Lib.hid (show res = -1 by
          rw [HR2.out, cmpL_stop hk hk' (.inr (.inr (by omega))), HZ.out]
          show cmpI _ _ = -1
          exact cmpI_less.2 (by omega))
        have t1 : (k : Int) < (subs.length : Int) := by omega
        have t2 : ¬ (k : Int) < (subs'.length : Int) := by omega
        have t3 : (subs'.length : Int) < (subs.length : Int) := by omega
        clear IH HN HN' HR2
        go_wp2
        go_ret
        exact ⟨by rw [FIN.out]; rfl, hx12⟩
    · have hf : res = cmpI subs'.length subs.length := by
        rw [HR2.out, cmpL_stop hk hk' (.inr (.inl (by omega))), HZ.out]
        rfl
      have t1 : ¬ (k : Int) < (subs.length : Int) := by omega
      have t3 : ¬ (subs'.length : Int) < (subs.length : Int) := by omega
      clear IH HN HN' HR2
      by_cases t4 : (subs.length : Int) < (subs'.length : Int)
      · have FIN := Lib.hid (show res = 1 by rw [hf]; unfold cmpI; rw [if_neg t3, if_pos t4])
        clear hf
        go_wp2
        go_ret
        exact ⟨by rw [FIN.out]; rfl, hx12⟩
      · have FIN := Lib.hid (show res = 0 by rw [hf]; unfold cmpI; rw [if_neg t3, if_neg t4])
        clear hf
        go_wp2
        go_ret
        exact ⟨by rw [FIN.out]; rfl, hx12⟩

theorem samePL_app : ∀ (a b c d : List Ps), a.length = b.length → samePL (a ++ c) (b ++ d) = (samePL a b && samePL c d)
  | [], [], _, _, _ => by simp [samePL]
  | x :: a, y :: b, c, d, h => by
    show samePL (x :: (a ++ c)) (y :: (b ++ d)) = _
    rw [samePL, samePL, samePL_app a b c d (by simpa using h), Bool.and_assoc]
  | [], _ :: _, _, _, h => by cases h
  | _ :: _, [], _, _, h => by cases h
theorem samePL_one (a b : Ps) : samePL [a] [b] = samePs a b := by simp [samePL]
theorem samePL_step {s s' : List Ps} {k : Nat} (h : k < s.length) (h' : k < s'.length) (ht : samePL (s.take k) (s'.take k) = true) : samePL (s.take (k + 1)) (s'.take (k + 1)) = samePs s[k] s'[k] := by
  rw [take_snoc s k h, take_snoc s' k h', samePL_app _ _ _ _ (by simp; omega), ht, samePL_one, Bool.true_and]
theorem samePL_stop {s s' : List Ps} {k : Nat} (h : k < s.length) (h' : k < s'.length) (ht : samePs s[k] s'[k] = false) : samePL s s' = false := by
  have e : s = s.take k ++ s[k] :: s.drop (k + 1) := by rw [← List.drop_eq_getElem_cons h, List.take_append_drop]
  have e' : s' = s'.take k ++ s'[k] :: s'.drop (k + 1) := by rw [← List.drop_eq_getElem_cons h', List.take_append_drop]
  have h1 : samePL (s.take k ++ s[k] :: s.drop (k + 1)) (s'.take k ++ s'[k] :: s'.drop (k + 1)) = false := by
    rw [samePL_app _ _ _ _ (by simp; omega), samePL, ht, Bool.false_and, Bool.and_false]
  rw [← e, ← e'] at h1
  exact h1

set_option maxRecDepth 100000 in
set_option maxHeartbeats 8000000 in
theorem sameParse_any : ∀ (a : Ps) (sva : Value) (b : Ps) (svb : Value) (w : World), PsOk w a sva → PsOk w b svb → smallP a →
    Calls Tryd.prog 46 #[psV a.d sva, psV b.d svb] w fun r w' => r = .returned (.bool (samePs a b)) ∧ Ext w w' := by
  refine Ps.ind fun hd subs ih sva b svb w hn hn' hsm => ?_
  obtain ⟨hd', subs'⟩ := b
  obtain ⟨A, c, rfl⟩ := hn.shape
  obtain ⟨A', c', rfl⟩ := hn'.shape
  obtain ⟨hlen, hsm⟩ := hsm
  have IH := Lib.hid (fun n hm sv b svb w hn hn' => ih n hm sv b svb w hn hn' (smallPL_mem hsm n hm))
  have HN := Lib.hid hn
  have HN' := Lib.hid hn'
  have HR := Lib.hid (by rw [samePs] : samePs (.mk hd subs) (.mk hd' subs') = (decide (hd.a = hd'.a ∧ hd.b = hd'.b ∧ hd.k = hd'.k) && decide (subs.length = subs'.length) && samePL subs subs'))
  clear ih hsm hn hn'
  generalize samePs (.mk hd subs) (.mk hd' subs') = res at *
  simp only [Ps.d, Ps.subs] at *
  go_enter Tryd.func46, Tryd.ntmps46
  go_upto_region 1 with (first
    | (refine wpl_boxPs rfl _ rfl hd _ rfl ?_; intro x w1 hb hx1 ex sx)
    | (refine wpl_boxPs rfl _ rfl hd' _ rfl ?_; intro y w2 hc hx2 ey sy))
  have hb2 := hb.ext hx2
  have hx12 := hx1.trans hx2
  clear hb hx1 hx2 ex sx ey sy
  have c0 : w2.cell? ⟨x, 0, none⟩ = some (.int .i64 hd.a) := hb2.cell 0
  have c1 : w2.cell? ⟨x, 1, none⟩ = some (.int .i64 hd.b) := hb2.cell 1
  have c2 : w2.cell? ⟨x, 2, none⟩ = some (.int .i64 hd.k) := hb2.cell 2
  have c3 : w2.cell? ⟨x, 3, none⟩ = some (.slice A subs.length c) := hb2.cell 3
  have d0 : w2.cell? ⟨y, 0, none⟩ = some (.int .i64 hd'.a) := hc.cell 0
  have d1 : w2.cell? ⟨y, 1, none⟩ = some (.int .i64 hd'.b) := hc.cell 1
  have d2 : w2.cell? ⟨y, 2, none⟩ = some (.int .i64 hd'.k) := hc.cell 2
  have d3 : w2.cell? ⟨y, 3, none⟩ = some (.slice A' subs'.length c') := hc.cell 3
  clear hb2 hc
  obtain ⟨a, b, k⟩ := hd
  obtain ⟨a', b', k'⟩ := hd'
  simp only at *
  by_cases t : (a = a' ∧ b = b' ∧ k = k') ∧ subs.length = subs'.length
  case neg =>
    have FIN := Lib.hid (show res = false by
      rw [HR.out, Bool.eq_false_iff]
      intro h
      rw [Bool.and_eq_true, Bool.and_eq_true, decide_eq_true_eq, decide_eq_true_eq] at h
      exact t h.1)
    clear HR IH HN HN'
    have e0 : ((subs.length : Int) != (subs'.length : Int)) = !decide (subs.length = subs'.length) := by
      by_cases h : subs.length = subs'.length
      · simp [h]
      · have h2 : ¬ ((subs.length : Int) = (subs'.length : Int)) := by omega
        simp [h, h2]
    by_cases t1 : a = a'
    case' neg => have e1 : (a != a') = true := by simpa using t1
    case' pos =>
      subst t1
      by_cases t2 : b = b'
      case' neg => have e1 : (b != b') = true := by simpa using t2
      case' pos =>
        subst t2
        by_cases t3 : k = k'
        case' neg => have e1 : (k != k') = true := by simpa using t3
        case' pos =>
          subst t3
          have t4 : subs.length ≠ subs'.length := fun h => t ⟨⟨rfl, rfl, rfl⟩, h⟩
          rw [decide_eq_false t4] at e0
    all_goals
      clear t
      go_wp2
      go_ret
      exact ⟨by rw [FIN.out]; rfl, hx12⟩
  obtain ⟨⟨rfl, rfl, rfl⟩, hll⟩ := t
  have HR2 := Lib.hid (show res = samePL subs subs' by rw [HR.out, hll]; simp)
  have e0 : ((subs.length : Int) != (subs'.length : Int)) = false := by rw [hll]; simp
  have HLL := Lib.hid hll
  clear HR hll
  go_upto_region 4 with fail
  clear c0 c1 c2 d0 d1 d2 e0
  have hx22 := Ext.refl w2
  go_loopw [37] (fun i wr => ∃ k : Nat, k ≤ subs.length ∧ i = .int .i64 k ∧ samePL (subs.take k) (subs'.take k) = true ∧ Ext w2 wr) (fun i _ => subs.length - (intOf i).toNat)
  case atStart => exact ⟨0, Nat.zero_le _, rfl, by rw [List.take_zero, samePL], hx22⟩
  case round =>
    clear hx22
    obtain ⟨k, hk, rfl, hz, hx⟩ := hrel
    replace c3 := hx.cell c3
    replace d3 := hx.cell d3
    replace hx12 := hx12.trans hx
    have HZ := Lib.hid hz
    clear hz
    by_cases hlt : k < subs.length
    · have hlt' : k < subs'.length := HLL.out ▸ hlt
      have HST := Lib.hid (samePL_step hlt hlt' HZ.out)
      have HEN := Lib.hid (fun h => samePL_stop hlt hlt' h)
      obtain ⟨g0, o0, sv, rfl, hat, hok⟩ := HN.out.get k hlt
      obtain ⟨g1, o1, sv', rfl, hat', hok'⟩ := HN'.out.get k hlt'
      replace hat := (hat.ext hx12).drew
      replace hat' := (hat'.ext hx12).drew
      have IHk := Lib.hid (IH.out subs[k] (List.getElem_mem hlt) sv subs'[k] sv' wr.drew (hok.ext hx12.drewr) (hok'.ext hx12.drewr))
      clear IH HN HN' hok hok'
      generalize samePs subs[k] subs'[k] = pk at *
      generalize subs[k] = nk at *
      generalize subs'[k] = nk' at *
      have t1 : (k : Int) < (subs.length : Int) := by omega
      have t2 : (k : Int) < (subs'.length : Int) := by omega
      go_upto_region 6 with fail
      refine wp_region_still_tail 10 (by kernel_rfl) (by kernel_rfl) ?_
      simp only [List.take_succ_cons, List.take_zero, List.drop_succ_cons, List.drop_zero]
      repeat still_step
      refine wpStill_loadPs _ rfl rfl g0 (o0 + k * 4) _ sv rfl hat ?_
      repeat still_step
      refine wpStill_loadPs _ rfl rfl g1 (o1 + k * 4) _ sv' rfl hat' ?_
      repeat still_step
      refine wpStill_nil ?_
      change wpList _ _ _ _ _ wr.drew
      clear hat hat'
      cases pk
      all_goals
        go_wp2_with (go_at_call 46; refine IHk.out.mono ?_; rintro e w6 ⟨rfl, hx6⟩)
      · go_ret
        exact ⟨by rw [HR2.out, HEN.out trivial]; rfl, hx12.drewr.trans hx6⟩
      · go_roundw
        case rel => exact ⟨k + 1, by omega, by go_num, HST.out, hx.drewr.trans hx6⟩
        case measure => simp [intOf]; omega
    · have hkl : subs.take k = subs := List.take_of_length_le (by omega)
      have hkl' : subs'.take k = subs' := List.take_of_length_le (by have := HLL.out; omega)
      rw [hkl, hkl'] at HZ
      have t1 : ¬ (k : Int) < (subs.length : Int) := by omega
      clear IH HN HN' hkl hkl'
      go_wp2
      go_ret
      exact ⟨by rw [HR2.out, HZ.out]; rfl, hx12⟩

end Go.Proofs.YthddlhpndaffjaaDoor

namespace Go.Proofs.YthddlhpndaffjaaDoor
open Go Go.RowKit

section
variable {ops : Array Oper} {rest : List Oper} {o : Oper} {a : Act} {w : World} {Q : Exit → Act → World → Prop}
/-- A list literal of two nodes. -/
theorem wpl_twoNd (hgd : o.guard = none) (x y : Operand) (ho : o.op = .buildSlice 25 2 #[(0, x), (1, y)]) (h h' : Hd) (sv sv' : Value) (hx : a.eval x = nodeV h sv) (hy : a.eval y = nodeV h' sv')
    (hK : ∀ g w1, NdAt w1 g 0 h sv → NdAt w1 g 10 h' sv' → Ext w w1 → w.heap.size ≤ g → wpList Tryd.prog ops Q rest (a.put o.dst (.slice (some ⟨g, 0, none⟩) 2 2)) w1) : wpList Tryd.prog ops Q (o :: rest) a w := by
  obtain ⟨i, hi, hz⟩ := Option.map_eq_some_iff.1 zero_nd
  have hs : i.size = 10 := by have := info_nd; rw [hi] at this; simpa using this
  have hb : ∀ j, j < 20 → (w.alloc (.cells ((nodeC h sv ++ nodeC h' sv').toArray) 27)).cell? ⟨w.heap.size, j, none⟩ = (nodeC h sv ++ nodeC h' sv')[j]? := fun j _ => by
    rw [(Blk.new w _ _).cell]; simp
  refine wpList_buildSlice hgd 25 27 2 _ ho ((nodeC h sv ++ nodeC h' sv').toArray) i _ Tryd.underlying25 hi hz (by rw [hs]; decide) (by rw [hs]; decide) ?_ (hK _ _ (fun j hj => by
      rw [Nat.zero_add, hb j (by omega), List.getElem?_append_left (by rw [nodeC_len]; omega)]) (fun j hj => by
      rw [hb (10 + j) (by omega), List.getElem?_append_right (by rw [nodeC_len]; omega), nodeC_len, Nat.add_sub_cancel_left]) ((Ext.refl w).alloc _) (Nat.le_refl _))
  rw [hs]
  have hf := Great.fill_whole (s := 10) (by decide) [nodeV h sv, nodeV h' sv'] ((Array.range (2 * 10)).map ((nodeV ⟨0, fun _ => false, 0, 0, 0, false⟩ (.slice none 0 0)).cells[· % (nodeV ⟨0, fun _ => false, 0, 0, 0, false⟩ (.slice none 0 0)).cells.size]!)) (fun v hv => by
    simp only [List.mem_cons, List.not_mem_nil, or_false] at hv
    rcases hv with rfl | rfl <;> rfl) (by simp)
  have e : (List.map (fun x => (x.2, x.1)) ([nodeV h sv, nodeV h' sv'].zipIdx 0)) = (Array.map (fun x => (x.1, a.eval x.2)) #[(0, x), (1, y)]).toList := by simp [hx, hy, List.zipIdx]
  rw [e] at hf
  rw [hf]
  simp [nodeV_eq, Value.cells, nodeA]
theorem zero_ps : (Tryd.prog.info? 60).map (fun i => i.zero) = some (some (psV ⟨0, 0, 0⟩ (.slice none 0 0))) := by kernel_rfl
/-- A list literal of one parse. -/
theorem wpl_onePs (hgd : o.guard = none) (x : Operand) (ho : o.op = .buildSlice 58 1 #[(0, x)]) (h : Pd) (sv : Value) (hx : a.eval x = psV h sv)
    (hK : ∀ g w1, PsAt w1 g 0 h sv → Ext w w1 → w.heap.size ≤ g → wpList Tryd.prog ops Q rest (a.put o.dst (.slice (some ⟨g, 0, none⟩) 1 1)) w1) : wpList Tryd.prog ops Q (o :: rest) a w := by
  obtain ⟨i, hi, hz⟩ := Option.map_eq_some_iff.1 zero_ps
  have hs : i.size = 4 := by have := info_ps; rw [hi] at this; simpa using this
  refine wpList_buildSlice hgd 58 60 1 _ ho (psA h sv) i _ Tryd.underlying58 hi hz (by rw [hs]; decide) (by rw [hs]; decide) ?_ (hK _ _ (Blk.new w _ _).ps ((Ext.refl w).alloc _) (Nat.le_refl _))
  rw [hs]
  have hf := Great.fill_whole (s := 4) (by decide) [psV h sv] ((Array.range (1 * 4)).map ((psV ⟨0, 0, 0⟩ (.slice none 0 0)).cells[· % (psV ⟨0, 0, 0⟩ (.slice none 0 0)).cells.size]!)) (fun v hv => by simp only [List.mem_singleton] at hv; subst hv; rfl) (by simp)
  have e : (List.map (fun x => (x.2, x.1)) ([psV h sv].zipIdx 0)) = (Array.map (fun x => (x.1, a.eval x.2)) #[(0, x)]).toList := by simp [hx]
  rw [e] at hf
  rw [hf]
  simp [psV_eq, Value.cells]
theorem psC_len (d : Pd) (sv : Value) : (psC d sv).length = 4 := rfl
/-- A list literal of two parses. -/
theorem wpl_twoPs (hgd : o.guard = none) (x y : Operand) (ho : o.op = .buildSlice 58 2 #[(0, x), (1, y)]) (h h' : Pd) (sv sv' : Value) (hx : a.eval x = psV h sv) (hy : a.eval y = psV h' sv')
    (hK : ∀ g w1, PsAt w1 g 0 h sv → PsAt w1 g 4 h' sv' → Ext w w1 → w.heap.size ≤ g → wpList Tryd.prog ops Q rest (a.put o.dst (.slice (some ⟨g, 0, none⟩) 2 2)) w1) : wpList Tryd.prog ops Q (o :: rest) a w := by
  obtain ⟨i, hi, hz⟩ := Option.map_eq_some_iff.1 zero_ps
  have hs : i.size = 4 := by have := info_ps; rw [hi] at this; simpa using this
  have hb : ∀ j, j < 8 → (w.alloc (.cells ((psC h sv ++ psC h' sv').toArray) 60)).cell? ⟨w.heap.size, j, none⟩ = (psC h sv ++ psC h' sv')[j]? := fun j _ => by
    rw [(Blk.new w _ _).cell]; simp
  refine wpList_buildSlice hgd 58 60 2 _ ho ((psC h sv ++ psC h' sv').toArray) i _ Tryd.underlying58 hi hz (by rw [hs]; decide) (by rw [hs]; decide) ?_ (hK _ _ (fun j hj => by
      rw [Nat.zero_add, hb j (by omega), List.getElem?_append_left (by rw [psC_len]; omega)]) (fun j hj => by
      rw [hb (4 + j) (by omega), List.getElem?_append_right (by rw [psC_len]; omega), psC_len, Nat.add_sub_cancel_left]) ((Ext.refl w).alloc _) (Nat.le_refl _))
  rw [hs]
  have hf := Great.fill_whole (s := 4) (by decide) [psV h sv, psV h' sv'] ((Array.range (2 * 4)).map ((psV ⟨0, 0, 0⟩ (.slice none 0 0)).cells[· % (psV ⟨0, 0, 0⟩ (.slice none 0 0)).cells.size]!)) (fun v hv => by
    simp only [List.mem_cons, List.not_mem_nil, or_false] at hv
    rcases hv with rfl | rfl <;> rfl) (by simp)
  have e : (List.map (fun x => (x.2, x.1)) ([psV h sv, psV h' sv'].zipIdx 0)) = (Array.map (fun x => (x.1, a.eval x.2)) #[(0, x), (1, y)]).toList := by simp [hx, hy, List.zipIdx]
  rw [e] at hf
  rw [hf]
  simp [psV_eq, Value.cells, psA]
end
theorem NdOk.leaf (W : World) (h : Hd) (A : Option Addr) (c : Nat) : NdOk W (.mk h []) (.slice A 0 c) := by
  unfold NdOk
  exact ⟨A, c, rfl, trivial⟩
theorem NdOk.one {W : World} {n : Nd} {h : Hd} {g c : Nat} {sv : Value} (ha : NdAt W g 0 n.h sv) (hn : NdOk W n sv) : NdOk W (.mk h [n]) (.slice (some ⟨g, 0, none⟩) 1 c) := by
  unfold NdOk
  refine ⟨_, c, rfl, ⟨g, 0, sv, rfl, fun i hi => ?_, hn⟩, trivial⟩
  have := ha i hi
  rwa [Nat.zero_add] at this ⊢
theorem NdOk.two {W : World} {n n' : Nd} {h : Hd} {g c : Nat} {sv sv' : Value} (ha : NdAt W g 0 n.h sv) (hn : NdOk W n sv) (ha' : NdAt W g 10 n'.h sv') (hn' : NdOk W n' sv') : NdOk W (.mk h [n, n']) (.slice (some ⟨g, 0, none⟩) 2 c) := by
  unfold NdOk
  refine ⟨_, c, rfl, ⟨g, 0, sv, rfl, fun i hi => ?_, hn⟩, ⟨g, 0, sv', rfl, fun i hi => ?_, hn'⟩, trivial⟩
  · have := ha i hi
    rwa [Nat.zero_add] at this ⊢
  · have := ha' i hi
    rwa [show 0 + (0 + 1) * 10 + i = 10 + i by omega]
theorem PsOk.leaf (W : World) (d : Pd) (A : Option Addr) (c : Nat) : PsOk W (.mk d []) (.slice A 0 c) := by
  unfold PsOk
  exact ⟨A, c, rfl, trivial⟩
theorem PsOk.one {W : World} {p : Ps} {d : Pd} {g c : Nat} {sv : Value} (ha : PsAt W g 0 p.d sv) (hn : PsOk W p sv) : PsOk W (.mk d [p]) (.slice (some ⟨g, 0, none⟩) 1 c) := by
  unfold PsOk
  refine ⟨_, c, rfl, ⟨g, 0, sv, rfl, fun i hi => ?_, hn⟩, trivial⟩
  have := ha i hi
  rwa [Nat.zero_add] at this ⊢
theorem PsOk.two {W : World} {p p' : Ps} {d : Pd} {g c : Nat} {sv sv' : Value} (ha : PsAt W g 0 p.d sv) (hn : PsOk W p sv) (ha' : PsAt W g 4 p'.d sv') (hn' : PsOk W p' sv') : PsOk W (.mk d [p, p']) (.slice (some ⟨g, 0, none⟩) 2 c) := by
  unfold PsOk
  refine ⟨_, c, rfl, ⟨g, 0, sv, rfl, fun i hi => ?_, hn⟩, ⟨g, 0, sv', rfl, fun i hi => ?_, hn'⟩, trivial⟩
  · have := ha i hi
    rwa [Nat.zero_add] at this ⊢
  · have := ha' i hi
    rwa [show 0 + (0 + 1) * 4 + i = 4 + i by omega]

end Go.Proofs.YthddlhpndaffjaaDoor

namespace Go.Proofs.YthddlhpndaffjaaDoor
open Go Go.RowKit

def hdB (b : Nat) : Hd := ⟨2, fun x => x == b, 0, 0, 0, false⟩
def byN (b : Nat) : Nd := .mk (hdB b) []
def hdG (k : Int) : Hd := ⟨7, noS, k, 0, 0, false⟩
def hdR : Hd := ⟨8, noS, 0, 0, -1, false⟩
def exG2 : Nd := .mk (hdG 2) [byN 97]
def exAl : Nd := .mk (hdV 6) [exG2, byN 98]
def exG1 : Nd := .mk (hdG 1) [exAl]
def exT : Nd := .mk hdR [exG1]
def pa0 : Pd := ⟨0, 1, 0⟩
def ex1d : Ps := .mk pa0 []
def ex1c : Ps := .mk pa0 [ex1d]
def ex1b : Ps := .mk pa0 [ex1c]
def ex1 : Ps := .mk pa0 [ex1b]
def ex2c : Ps := .mk ⟨1, 2, 0⟩ []
def ex2b : Ps := .mk ⟨1, 2, 1⟩ [ex2c]
def ex2 : Ps := .mk ⟨1, 2, 0⟩ [ex2b]
def exP : Ps := .mk ⟨0, 2, 0⟩ [ex1, ex2]
theorem by_form (b : Nat) : formB (byN b) = true := by simp [byN, hdB, formB, formL, formedB]
theorem exT_form : formB exT = true := by
  simp [exT, exG1, exAl, exG2, hdR, hdG, hdV, formB, formL, by_form, formedB, zeroS_no, plainB]
theorem exT_plain : plainN exT = true := by simp [exT, exG1, exAl, exG2, byN, hdB, hdR, hdG, hdV, plainN, plainL, onceB]
theorem exT_nodes : nodesN exT = 6 := by simp [exT, exG1, exAl, exG2, byN, nodesN, nodesL]
theorem exT_depth : depthN exT = 5 := by simp [exT, exG1, exAl, exG2, byN, hdB, hdR, hdG, hdV, depthN, depthA, deepB]; try decide
theorem exT_chk : chkN exT = 0 := by
  have h := size_nodes exT exT_form
  rw [exp_plain _ exT_form exT_plain, exT_nodes] at h
  unfold chkN
  rw [exT_form, exT_depth, h]
  decide
def exS : ByteArray := { data := #[97, 98] }
theorem exT_parse : parseN exS.size (leafB exS 0 0) exP exT = true := by
  have e0 : ((exS.size : Nat) : Int) = 2 := rfl
  have l1 : leafB exS 0 0 (hdB 97) 0 1 = true := by unfold leafB hdB; simp [e0]; rfl
  have l2 : leafB exS 0 0 (hdB 98) 1 2 = true := by unfold leafB hdB; simp [e0]; rfl
  have k1 : ∀ b, (hdB b).kind = 2 := fun _ => rfl
  simp [exP, ex1, ex1b, ex1c, ex1d, ex2, ex2b, ex2c, pa0, exT, exG1, exAl, exG2, byN, hdR, hdG, hdV, parseN, rowN, guardP, okB, ndsOf, admB, fullL, Ps.d, e0, k1, l1, l2]
theorem exT_spans : spansN exT exP 2 = [(0, 2), (1, 2), (-1, -1)] := by
  simp [spansN, spans0, exP, ex1, ex1b, ex1c, ex1d, ex2, ex2b, ex2c, pa0, exT, exG1, exAl, exG2, byN, hdB, hdR, hdG, hdV, walkN, walkR, ndsOf, setS, unsetN, unsetL, Ps.d]
theorem ex_cmp : cmpN ex1 ex2 = -1 := by simp [ex1, ex2, cmpN, cmpH, cmpI, lexI, pa0]
theorem by_word (b : Nat) (h : b = 97 ∨ b = 98) : wd (fun x => x == b) 0 = 0 ∧ wd (fun x => x == b) 1 = 2 ^ (b - 64) ∧ wd (fun x => x == b) 2 = 0 ∧ wd (fun x => x == b) 3 = 0 := by
  rcases h with rfl | rfl <;> exact ⟨by decide, by decide, by decide, by decide⟩

theorem by_lit97 : Value.agg #[.int .i64 2, .int .u64 0, .int .u64 8589934592, .int .u64 0, .int .u64 0, .slice none 0 0, .int .i64 0, .int .i64 0, .int .i64 0, .bool false] = nodeV (hdB 97) (.slice none 0 0) := by
  obtain ⟨h0, h1, h2, h3⟩ := by_word 97 (.inl rfl)
  unfold nodeV hdB
  simp only [h0, h1, h2, h3]
  rfl
theorem by_lit98 : Value.agg #[.int .i64 2, .int .u64 0, .int .u64 17179869184, .int .u64 0, .int .u64 0, .slice none 0 0, .int .i64 0, .int .i64 0, .int .i64 0, .bool false] = nodeV (hdB 98) (.slice none 0 0) := by
  obtain ⟨h0, h1, h2, h3⟩ := by_word 98 (.inr rfl)
  unfold nodeV hdB
  simp only [h0, h1, h2, h3]
  rfl

theorem lit3 {W : World} {g : Nat} {t : TypeId} (hB : Blk W g t #[.int .i64 0, .int .i64 2, .int .i64 1, .int .i64 2, .int .i64 (-1), .int .i64 (-1)]) : RdS W (.slice (some ⟨g, 0, none⟩) 3 3) [(0, 2), (1, 2), (-1, -1)] := by
  refine ⟨_, 3, rfl, fun j hj => ⟨g, 0, rfl, ?_⟩⟩
  have hj' : j = 0 ∨ j = 1 ∨ j = 2 := by simp at hj; omega
  rcases hj' with rfl | rfl | rfl <;> exact ⟨by rw [hB.cell]; rfl, by rw [hB.cell]; rfl⟩

set_option maxRecDepth 100000 in
set_option maxHeartbeats 8000000 in
theorem rlives_any (w : World) (A : Nat → Addr) (hE : Err3 w A) :
    Calls Tryd.prog 36 #[] w fun r w' => r = .returned (.bool true) ∧ Ext w w' := by
  have H98 := Lib.hid by_lit98
  have H97 := Lib.hid by_lit97
  have HER := Lib.hid hE
  clear hE
  go_enter Tryd.func36, Tryd.ntmps36
  go_upto_region 2 with (first
    | (have := s1; refine wpl_allocNd rfl rfl ?_; intro z2 w2 hz2 hx2 e2 s2)
    | (refine wpl_allocNd rfl rfl ?_; intro z1 w1 hz1 hx1 e1 s1)
    | (refine wpl_storeNd rfl _ _ rfl rfl z1 (hdB 97) _ (.slice none 0 0) _ rfl H97.out (isSl_mk _ _ _) (hz1.ext hx2) ?_; intro w3 hz3 hk3)
    | (refine wpl_storeNd rfl _ _ rfl rfl z2 (hdB 98) _ (.slice none 0 0) _ rfl H98.out (isSl_mk _ _ _) (hz2.keep1 hk3 (by omega)) ?_; intro w4 hz4 hk4))
  have ha := hz3.keep1 hk4 (by omega)
  have hx4 := (((hx1.trans hx2).keep1 hk3 e1).keep1 hk4 (by have := hx1.size; omega))
  clear hz1 hz2 hx1 hx2 hk3 hk4 e1 s1 e2 s2 hz3
  go_upto_region 3 with (first
    | (refine wpl_loadNd rfl _ rfl z1 0 (hdB 97) _ rfl ha.nd ?_)
    | (refine wpl_oneNd rfl _ rfl (hdB 97) (.slice none 0 0) rfl ?_; intro g5 w5 hg5 hx5 e5 s5)
    | (refine wpl_loadNd rfl _ rfl z2 0 (hdB 98) _ rfl (hz4.ext hx5).nd ?_)
    | (refine wpl_twoNd rfl _ _ rfl (hdG 2) (hdB 98) (.slice (some ⟨g5, 0, none⟩) 1 1) (.slice none 0 0) (node_lit _ _ _ _ _ _) rfl ?_; intro g6 w6 hg6 hg6' hx6 e6)
    | (refine wpl_allocNd rfl rfl ?_; intro z3 w7 hz3 hx7 e7 s7)
    | (refine wpl_storeNd rfl _ _ rfl rfl z3 (hdV 6) _ (.slice (some ⟨g6, 0, none⟩) 2 2) _ rfl (node_lit _ _ _ _ _ _) (isSl_mk _ _ _) hz3 ?_; intro w8 hz8 hk8))
  have h48 := ((hx5.trans hx6).trans hx7).keep1 hk8 (by have := hx5.size; have := hx6.size; omega)
  have ok5 : NdOk w5 exG2 (.slice (some ⟨g5, 0, none⟩) 1 1) := NdOk.one hg5.nd (NdOk.leaf _ _ _ _)
  have ok6 : NdOk w6 exAl (.slice (some ⟨g6, 0, none⟩) 2 2) := NdOk.two hg6 (ok5.ext hx6) hg6' (NdOk.leaf _ _ _ _)
  have ok8 := ok6.ext (hx7.keep1 hk8 e7)
  have hx8 := hx4.trans h48
  clear hx4 hx5 hx6 hx7 hk8 h48 e5 s5 e6 e7 s7 hz3 hg5 hg6 hg6' ha hz4 ok5 ok6
  go_upto_region 4 with (first
    | (refine wpl_loadNd rfl _ rfl z3 0 (hdV 6) _ rfl hz8.nd ?_)
    | (refine wpl_oneNd rfl _ rfl (hdV 6) (.slice (some ⟨g6, 0, none⟩) 2 2) rfl ?_; intro g9 w9 hg9 hx9 e9 s9)
    | (refine wpl_oneNd rfl _ rfl (hdG 1) (.slice (some ⟨g9, 0, none⟩) 1 1) (node_lit _ _ _ _ _ _) ?_; intro g10 w10 hg10 hx10 e10 s10)
    | (refine wpl_allocNd rfl rfl ?_; intro z4 w11 hz4 hx11 e11 s11)
    | (refine wpl_storeNd rfl _ _ rfl rfl z4 hdR _ (.slice (some ⟨g10, 0, none⟩) 1 1) _ rfl (node_lit _ _ _ _ _ _) (isSl_mk _ _ _) hz4 ?_; intro w12 hz12 hk12))
  have h812 := ((hx9.trans hx10).trans hx11).keep1 hk12 (by have := hx9.size; have := hx10.size; omega)
  have ok9 : NdOk w9 exG1 (.slice (some ⟨g9, 0, none⟩) 1 1) := NdOk.one hg9.nd (ok8.ext hx9)
  have ok10 : NdOk w10 exT (.slice (some ⟨g10, 0, none⟩) 1 1) := NdOk.one hg10.nd (ok9.ext hx10)
  have ok12 := ok10.ext (hx11.keep1 hk12 e11)
  have hx12 := hx8.trans h812
  clear hx8 hx9 hx10 hx11 hk12 h812 e9 s9 e10 s10 e11 s11 hz4 hg9 hg10 hz8 ok8 ok9 ok10
  go_upto_region 5 with (first
    | (have := e14; refine wpl_onePs rfl _ rfl pa0 (.slice (some ⟨g14, 0, none⟩) 1 1) rfl ?_; intro g15 w15 hg15 hx15 e15)
    | (have := e13; refine wpl_onePs rfl _ rfl pa0 (.slice (some ⟨g13, 0, none⟩) 1 1) rfl ?_; intro g14 w14 hg14 hx14 e14)
    | (refine wpl_onePs rfl _ rfl pa0 (.slice none 0 0) rfl ?_; intro g13 w13 hg13 hx13 e13)
    | (refine wpl_allocPs rfl rfl ?_; intro z5 w16 hz5 hx16 e16 s16)
    | (refine wpl_storePs rfl _ _ rfl rfl z5 pa0 _ (.slice (some ⟨g15, 0, none⟩) 1 1) _ rfl rfl (isSl_mk _ _ _) hz5 ?_; intro w17 hz17 hk17))
  have p13 : PsOk w13 ex1c (.slice (some ⟨g13, 0, none⟩) 1 1) := PsOk.one hg13 (PsOk.leaf _ _ _ _)
  have p14 : PsOk w14 ex1b (.slice (some ⟨g14, 0, none⟩) 1 1) := PsOk.one hg14 (p13.ext hx14)
  have p15 : PsOk w15 ex1 (.slice (some ⟨g15, 0, none⟩) 1 1) := PsOk.one hg15 (p14.ext hx15)
  have p17 := p15.ext (hx16.keep1 hk17 e16)
  have h1217 := (((hx13.trans hx14).trans hx15).trans hx16).keep1 hk17 (by have := hx13.size; have := hx14.size; have := hx15.size; omega)
  have ok17 := ok12.ext h1217
  have hz4 := hz12.ext h1217
  have hx17 := hx12.trans h1217
  clear hx12 hx13 hx14 hx15 hx16 hk17 h1217 e13 e14 e15 e16 s16 hz5 hg13 hg14 hg15 p13 p14 p15 ok12 hz12
  go_upto_region 6 with (first
    | (have := e18; refine wpl_onePs rfl _ rfl ⟨1, 2, 1⟩ (.slice (some ⟨g18, 0, none⟩) 1 1) rfl ?_; intro g19 w19 hg19 hx19 e19)
    | (refine wpl_onePs rfl _ rfl ⟨1, 2, 0⟩ (.slice none 0 0) rfl ?_; intro g18 w18 hg18 hx18 e18)
    | (refine wpl_allocPs rfl rfl ?_; intro z6 w20 hz6 hx20 e20 s20)
    | (refine wpl_storePs rfl _ _ rfl rfl z6 ⟨1, 2, 0⟩ _ (.slice (some ⟨g19, 0, none⟩) 1 1) _ rfl rfl (isSl_mk _ _ _) hz6 ?_; intro w21 hz21 hk21))
  have p18 : PsOk w18 ex2b (.slice (some ⟨g18, 0, none⟩) 1 1) := PsOk.one hg18 (PsOk.leaf _ _ _ _)
  have p19 : PsOk w19 ex2 (.slice (some ⟨g19, 0, none⟩) 1 1) := PsOk.one hg19 (p18.ext hx19)
  have q21 := p19.ext (hx20.keep1 hk21 e20)
  have h1721 := ((hx18.trans hx19).trans hx20).keep1 hk21 (by have := hx18.size; have := hx19.size; omega)
  have p21 := p17.ext h1721
  have ok21 := ok17.ext h1721
  have hz4' := hz4.ext h1721
  have hz5' := hz17.ext h1721
  have hx21 := hx17.trans h1721
  clear hx17 hx18 hx19 hx20 hk21 h1721 e18 e19 e20 s20 hz6 hg18 hg19 p18 p19 p17 ok17 hz4 hz17
  have he4 : nodeA hdR (.slice (some ⟨g10, 0, none⟩) 1 1) = #[.int .i64 8, .int .u64 0, .int .u64 0, .int .u64 0, .int .u64 0, .slice (some ⟨g10, 0, none⟩) 1 1, .int .i64 0, .int .i64 0, .int .i64 (-1), .bool false] := by
    simp only [nodeA, nodeC, hdR]
    rfl
  rw [he4] at hz4'
  have KS := Lib.hid (fun w' (hw' : Ext w21 w') => (⟨⟨(hz4'.ext hw').cell 0, (hz4'.ext hw').cell 1, (hz4'.ext hw').cell 2, (hz4'.ext hw').cell 3, (hz4'.ext hw').cell 4, (hz4'.ext hw').cell 5, (hz4'.ext hw').cell 6, (hz4'.ext hw').cell 7, (hz4'.ext hw').cell 8, (hz4'.ext hw').cell 9⟩,
    ⟨(hz5'.ext hw').cell 0, (hz5'.ext hw').cell 1, (hz5'.ext hw').cell 2, (hz5'.ext hw').cell 3⟩, ⟨(hz21.ext hw').cell 0, (hz21.ext hw').cell 1, (hz21.ext hw').cell 2, (hz21.ext hw').cell 3⟩⟩ :
    (w'.cell? ⟨z4, 0, none⟩ = some (.int .i64 8) ∧ w'.cell? ⟨z4, 1, none⟩ = some (.int .u64 0) ∧ w'.cell? ⟨z4, 2, none⟩ = some (.int .u64 0) ∧ w'.cell? ⟨z4, 3, none⟩ = some (.int .u64 0) ∧ w'.cell? ⟨z4, 4, none⟩ = some (.int .u64 0) ∧ w'.cell? ⟨z4, 5, none⟩ = some (.slice (some ⟨g10, 0, none⟩) 1 1) ∧ w'.cell? ⟨z4, 6, none⟩ = some (.int .i64 0) ∧ w'.cell? ⟨z4, 7, none⟩ = some (.int .i64 0) ∧ w'.cell? ⟨z4, 8, none⟩ = some (.int .i64 (-1)) ∧ w'.cell? ⟨z4, 9, none⟩ = some (.bool false)) ∧
    (w'.cell? ⟨z5, 0, none⟩ = some (.int .i64 0) ∧ w'.cell? ⟨z5, 1, none⟩ = some (.int .i64 1) ∧ w'.cell? ⟨z5, 2, none⟩ = some (.int .i64 0) ∧ w'.cell? ⟨z5, 3, none⟩ = some (.slice (some ⟨g15, 0, none⟩) 1 1)) ∧
    (w'.cell? ⟨z6, 0, none⟩ = some (.int .i64 1) ∧ w'.cell? ⟨z6, 1, none⟩ = some (.int .i64 2) ∧ w'.cell? ⟨z6, 2, none⟩ = some (.int .i64 0) ∧ w'.cell? ⟨z6, 3, none⟩ = some (.slice (some ⟨g19, 0, none⟩) 1 1))))
  have HNew := Lib.hid (fun W => new_any exS 0 0 W (by decide))
  have HSp := Lib.hid (fun W p gB cB (hW : Ext w21 W) (hs : IsScene W p exS (mkAt exS 0 0 exS.size)) (hB : Blk W gB 60 #[.int .i64 0, .int .i64 1, .int .i64 0, .slice (some ⟨g15, 0, none⟩) 1 1, .int .i64 1, .int .i64 2, .int .i64 0, .slice (some ⟨g19, 0, none⟩) 1 1]) => (by
    have hB4 : PsAt W gB 0 ex1.d (.slice (some ⟨g15, 0, none⟩) 1 1) := fun i hi => by
      rw [hB.cell]
      match i, hi with
      | 0, _ => rfl
      | 1, _ => rfl
      | 2, _ => rfl
      | 3, _ => rfl
    have hB8 : PsAt W gB 4 ex2.d (.slice (some ⟨g19, 0, none⟩) 1 1) := fun i hi => by
      rw [hB.cell]
      match i, hi with
      | 0, _ => rfl
      | 1, _ => rfl
      | 2, _ => rfl
      | 3, _ => rfl
    have hP : PsOk W exP (.slice (some ⟨gB, 0, none⟩) 2 cB) := PsOk.two hB4 (p21.ext hW) hB8 (q21.ext hW)
    have := spansR_any (s := exS) (c := 0) (e := 0) (x := p) exT _ exP _ 2 W A 100 (ok21.ext hW) hP (HER.out.ext (hx21.trans hW)) (by decide) (left_few (by rw [exT_nodes]; decide)) (by simp [exP, ex1, ex1b, ex1c, ex1d, ex2, ex2b, ex2c, smallP, smallPL]) hs (by decide)
    refine this.mono ?_
    intro r w' hr
    have hok : okSp exS 0 0 exT exP 2 = true := by simp [okSp, checkN, exT_chk, exT_parse]
    rcases hr with ⟨h0, _⟩ | ⟨_, g, cp, h1, h2, h3⟩
    · rw [hok] at h0; cases h0
    · rw [show (2 : Int).toNat = 2 from rfl, exT_spans] at h1 h2
      exact ⟨g, cp, h1, h2, h3⟩ : Calls Tryd.prog 41 #[.agg #[.int .i64 8, .int .u64 0, .int .u64 0, .int .u64 0, .int .u64 0, .slice (some ⟨g10, 0, none⟩) 1 1, .int .i64 0, .int .i64 0, .int .i64 (-1), .bool false], p, .agg #[.int .i64 0, .int .i64 2, .int .i64 0, .slice (some ⟨gB, 0, none⟩) 2 cB], .int .i64 2] W fun r w' => ∃ g cp, r = .returned (.tuple #[.slice (some ⟨g, 0, none⟩) 3 cp, .bool true]) ∧ OwnSp w' W.heap.size (.slice (some ⟨g, 0, none⟩) 3 cp) [(0, 2), (1, 2), (-1, -1)] ∧ Ext W w'))
  have HF5 := Lib.hid (fun w' (hw' : Ext w21 w') => ((hz5'.ext hw').ps : PsAt w' z5 0 pa0 (.slice (some ⟨g15, 0, none⟩) 1 1)))
  have HF6 := Lib.hid (fun w' (hw' : Ext w21 w') => ((hz21.ext hw').ps : PsAt w' z6 0 ⟨1, 2, 0⟩ (.slice (some ⟨g19, 0, none⟩) 1 1)))
  have HCP := Lib.hid (fun w' (hw' : Ext w21 w') => (by
    have := compare_any ex1 _ ex2 _ w' (p21.ext hw') (q21.ext hw') (by simp [ex1, ex1b, ex1c, ex1d, smallP, smallPL])
    rwa [ex_cmp] at this : Calls Tryd.prog 44 #[psV pa0 (.slice (some ⟨g15, 0, none⟩) 1 1), psV ⟨1, 2, 0⟩ (.slice (some ⟨g19, 0, none⟩) 1 1)] w' fun r w'' => r = .returned (.int .i64 (-1)) ∧ Ext w' w''))
  go_upto_region 6 with fail
  clear hz4' hz5' hz21 ok21 p21 q21 he4 H97 H98
  go_region_held3 (fun w' => (w'.cell? ⟨z4, 0, none⟩ = some (.int .i64 8) ∧ w'.cell? ⟨z4, 1, none⟩ = some (.int .u64 0) ∧ w'.cell? ⟨z4, 2, none⟩ = some (.int .u64 0) ∧ w'.cell? ⟨z4, 3, none⟩ = some (.int .u64 0) ∧ w'.cell? ⟨z4, 4, none⟩ = some (.int .u64 0) ∧ w'.cell? ⟨z4, 5, none⟩ = some (.slice (some ⟨g10, 0, none⟩) 1 1) ∧ w'.cell? ⟨z4, 6, none⟩ = some (.int .i64 0) ∧ w'.cell? ⟨z4, 7, none⟩ = some (.int .i64 0) ∧ w'.cell? ⟨z4, 8, none⟩ = some (.int .i64 (-1)) ∧ w'.cell? ⟨z4, 9, none⟩ = some (.bool false)) ∧
    (w'.cell? ⟨z5, 0, none⟩ = some (.int .i64 0) ∧ w'.cell? ⟨z5, 1, none⟩ = some (.int .i64 1) ∧ w'.cell? ⟨z5, 2, none⟩ = some (.int .i64 0) ∧ w'.cell? ⟨z5, 3, none⟩ = some (.slice (some ⟨g15, 0, none⟩) 1 1)) ∧
    (w'.cell? ⟨z6, 0, none⟩ = some (.int .i64 1) ∧ w'.cell? ⟨z6, 1, none⟩ = some (.int .i64 2) ∧ w'.cell? ⟨z6, 2, none⟩ = some (.int .i64 0) ∧ w'.cell? ⟨z6, 3, none⟩ = some (.slice (some ⟨g19, 0, none⟩) 1 1)))
    ((first | exact KS.out _ (Ext.refl _).drew | exact KS.out _ hX30 | exact KS.out _ (hXN.alloc _) | exact KS.out _ hXN | exact KS.out _ ((Ext.refl _).drew.alloc _)))
    (first
      | (go_at_call 38; refine (HNew.out _).mono ?_; rintro e wN ⟨⟨pN, rfl, hsN⟩, hxN⟩; have hXN : Ext w21 wN := (Ext.refl w21).drewr.trans hxN)
      | (go_at_call 38; refine (HNew.out _).mono ?_; rintro e wN ⟨⟨pN, rfl, hsN⟩, hxN⟩; have hXN : Ext w21 wN := ((Ext.refl w21).drewr.alloc _).trans hxN; have hBN : Blk wN w21.heap.size 60 #[.int .i64 0, .int .i64 1, .int .i64 0, .slice (some ⟨g15, 0, none⟩) 1 1, .int .i64 1, .int .i64 2, .int .i64 0, .slice (some ⟨g19, 0, none⟩) 1 1] := (Blk.new w21.drew _ _).ext hxN)
      | (go_at_call 41; ((with_reducible refine (HSp.out _ pN _ 2 (hXN.alloc _) (hsN.ext ((Ext.refl wN).alloc _)) (Blk.new wN _ _)).mono ?_); rintro e w30 ⟨g30, c30, rfl, hO30, hx30⟩; have hX30 : Ext w21 w30 := ((hXN.alloc _).trans hx30)))
      | (go_at_call 41; ((with_reducible refine (HSp.out _ pN w21.heap.size 2 hXN hsN hBN).mono ?_); rintro e w30 ⟨g30, c30, rfl, hO30, hx30⟩; have hX30 : Ext w21 w30 := hXN.trans hx30)))
  all_goals
    have hR30 := RdS.of_own hO30
    have hF5 := HF5.out w30 hX30
    have hF6 := HF6.out w30 hX30
    have HSm := Lib.hid (fun W g (hW : Ext w30 W) (hB : Blk W g 74 #[.int .i64 0, .int .i64 2, .int .i64 1, .int .i64 2, .int .i64 (-1), .int .i64 (-1)]) => sameSpans_any _ _ _ _ W (by decide) (hR30.ext hW) (lit3 hB))
    have HCm := Lib.hid (fun W (hW : Ext w30 W) => HCP.out W (hX30.trans hW))
    have hX := hx21.trans hX30
    clear hsN hxN hXN hx30 hO30 hR30 HSp HNew KS HCP HF5 HF6 HER hx21 hX30
    go_wp2_with (first
      | (go_at_call 43; ((with_reducible refine (HSm.out _ _ ((Ext.refl w30).alloc _) (Blk.new w30 _ _)).mono ?_); rintro e w31 ⟨rfl, hx31⟩; have hX31 : Ext w30 w31 := ((Ext.refl w30).alloc _).trans hx31))
      | (refine wpl_loadPsG _ rfl rfl z5 0 pa0 _ rfl (hF5.ext hX31) ?_)
      | (refine wpl_loadPsG _ rfl rfl z6 0 ⟨1, 2, 0⟩ _ rfl (hF6.ext hX31) ?_)
      | (go_at_call 44; refine (HCm.out _ hX31).mono ?_; rintro e w32 ⟨rfl, hx32⟩))
    go_ret
    exact ⟨rfl, (hX.trans hX31).trans hx32⟩

end Go.Proofs.YthddlhpndaffjaaDoor
