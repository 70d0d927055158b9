/- cmp.Compare and cmp.Or of ints, rank.Compare, trawlref12.Compare, trawlnum.SameParse as contracts. Condition: the parses lie in memory, the first one's lists are short. -/
import Derived.Test.YthddlhpndaffjaaDoorCmpP
import Derived.Test.YthddlhpndaffjaaDoorPsW
import Derived.Test.YthddlhpndaffjaaDoorTail
import Derived.BigQuiet
import Derived.Test.YthddlhpndaffjaaDoorNum
namespace Go.Proofs.YthddlhpndaffjaaDoor
open Go Go.RowKit

set_option maxHeartbeats 400000 in
theorem isNaN_any (x : Int) (w : World) : Calls Tryd.prog 101 #[.int .i64 x] w fun r w' => r = .returned (.bool false) ∧ w = w' := by
  have h : (x != x) = false := by simp
  go_enter Tryd.func101, Tryd.ntmps101
  go_wp2
  go_ret
  exact ⟨rfl, rfl⟩

set_option maxHeartbeats 400000 in
theorem cmpC_any (x y : Int) (w : World) : Calls Tryd.prog 71 #[.int .i64 x, .int .i64 y] w fun r w' => r = .returned (.int .i64 (cmpI x y)) ∧ w = w' := by
  have HN := Lib.hid (fun x W => isNaN_any x W)
  have HR := Lib.hid (show cmpI x y = if x < y then -1 else if y < x then 1 else 0 from rfl)
  generalize cmpI x y = r at *
  by_cases h1 : x < y
  · go_enter Tryd.func71, Tryd.ntmps71
    go_wp2_with (go_at_call 101; refine (HN.out _ _).mono ?_; rintro e w1 ⟨rfl, rfl⟩)
    go_ret
    exact ⟨by rw [HR.out, if_pos h1]; rfl, rfl⟩
  · by_cases h2 : y < x
    · go_enter Tryd.func71, Tryd.ntmps71
      go_wp2_with (go_at_call 101; refine (HN.out _ _).mono ?_; rintro e w1 ⟨rfl, rfl⟩)
      go_ret
      exact ⟨by rw [HR.out, if_neg (Int.not_lt.2 h1), if_pos h2]; rfl, rfl⟩
    · go_enter Tryd.func71, Tryd.ntmps71
      go_wp2_with (go_at_call 101; refine (HN.out _ _).mono ?_; rintro e w1 ⟨rfl, rfl⟩)
      go_ret
      exact ⟨by rw [HR.out, if_neg (Int.not_lt.2 h1), if_neg (Int.not_lt.2 h2)]; rfl, rfl⟩

/-- The first that isn't 0. -/
def orL : List Int → Int
  | [] => 0
  | x :: r => if x = 0 then orL r else x
theorem orL_skip : ∀ (l : List Int) (k : Nat), (∀ j, j < k → l.getD j 0 = 0) → orL l = orL (l.drop k)
  | l, 0, _ => by simp
  | [], k + 1, _ => by simp
  | x :: r, k + 1, h => by
    have := h 0 (by omega)
    rw [List.getD_cons_zero] at this
    rw [List.drop_succ_cons, orL, if_pos this]
    exact orL_skip r k (fun j hj => by have := h (j + 1) (by omega); rwa [List.getD_cons_succ] at this)

set_option maxHeartbeats 1000000 in
theorem or_any (v : Value) (l : List Int) (w : World) (hm : l.length ≤ 1000000) (hv : RdI w v l) :
    Calls Tryd.prog 70 #[v] w fun r w' => r = .returned (.int .i64 (orL l)) ∧ w = w' := by
  obtain ⟨A, c, rfl, hc⟩ := hv
  have HC := Lib.hid hc
  clear hc
  go_enter Tryd.func70, Tryd.ntmps70
  go_wp2
  go_loopw [8] (fun i wr => ∃ k : Nat, k ≤ l.length ∧ i = .int .i64 k ∧ Hid (∀ j, j < k → l.getD j 0 = 0) ∧ w = wr) (fun i _ => l.length - (intOf i).toNat)
  case atStart => exact ⟨0, Nat.zero_le _, rfl, Lib.hid (fun j hj => by omega), rfl⟩
  case round =>
    obtain ⟨k, hk, rfl, hq, rfl⟩ := hrel
    by_cases hlt : k < l.length
    · obtain ⟨g, o, rfl, h1⟩ := HC.out k hlt
      have h2 := orL_skip l k hq.out
      rw [List.drop_eq_getElem_cons hlt] at h2
      have hx : l[k] = l.getD k 0 := by rw [List.getD_eq_getElem?_getD, List.getElem?_eq_getElem hlt]; rfl
      rw [hx] at h2
      generalize l.getD k 0 = x at *
      have HX := Lib.hid hx
      have H2 := Lib.hid h2
      clear hx h2 HC
      by_cases h0 : x = 0
      · have e0 : (x != 0) = false := by simpa using h0
        have H0 := Lib.hid h0
        clear h0
        go_wp2
        go_roundw
        case rel =>
          refine ⟨k + 1, hlt, by go_num, Lib.hid (fun j hj => ?_), trivial⟩
          rcases Nat.lt_or_ge j k with hjk | hjk
          · exact hq.out j hjk
          · have : j = k := by omega
            rw [this, List.getD_eq_getElem?_getD, List.getElem?_eq_getElem hlt]
            exact HX.out.trans H0.out
        case measure => simp [intOf]; omega
      · have e0 : (x != 0) = true := by simpa using h0
        have HR := Lib.hid (show orL l = x by rw [H2.out, orL, if_neg h0])
        clear H2 h0
        go_wp2
        go_ret
        exact ⟨by rw [HR.out]; rfl, rfl⟩
    · have h2 := orL_skip l k hq.out
      rw [List.drop_eq_nil_of_le (by omega)] at h2
      have H2 := Lib.hid h2
      clear h2 HC
      go_wp2
      go_ret
      exact ⟨by rw [H2.out]; rfl, rfl⟩

theorem lexI_self (x : Int) : lexI x 0 = x := by unfold lexI; split <;> omega
theorem or3 {W : World} {g : Nat} {t : TypeId} {x y z : Int} (h : Blk W g t #[.int .i64 x, .int .i64 y, .int .i64 z]) : Calls Tryd.prog 70 #[.slice (some ⟨g, 0, none⟩) 3 3] W fun r w' => r = .returned (.int .i64 (lexI x (lexI y z))) ∧ W = w' := by
  have := or_any _ [x, y, z] W (by simp) (RdI.of_blk (c := 3) (l := [x, y, z]) h)
  have e : orL [x, y, z] = lexI x (lexI y z) := by
    unfold lexI
    simp only [orL]
    by_cases h1 : x = 0 <;> by_cases h2 : y = 0 <;> by_cases h3 : z = 0 <;> simp [h1, h2, h3]
  rw [e] at this
  exact this
theorem or2i {W : World} {g : Nat} {t : TypeId} {x y : Int} (h : Blk W g t #[.int .i64 x, .int .i64 y]) : Calls Tryd.prog 70 #[.slice (some ⟨g, 0, none⟩) 2 2] W fun r w' => r = .returned (.int .i64 (lexI x y)) ∧ W = w' := by
  have := or_any _ [x, y] W (by simp) (RdI.of_blk (c := 2) (l := [x, y]) h)
  have e : orL [x, y] = lexI x y := by
    unfold lexI
    simp only [orL]
    by_cases h1 : x = 0 <;> by_cases h2 : y = 0 <;> simp [h1, h2]
  rw [e] at this
  exact this
theorem cmpL_step {s s' : List Ps} {k : Nat} (h : k < s.length) (h' : k < s'.length) (ht : cmpL (s.take k) (s'.take k) = 0) : cmpL (s.take (k + 1)) (s'.take (k + 1)) = cmpN s[k] s'[k] := by
  rw [take_snoc s k h, take_snoc s' k h', cmpL_app _ _ _ _ (by simp; omega), ht, cmpL_one]
  rfl
theorem cmpL_stop {s s' : List Ps} {k : Nat} (hk : k ≤ s.length) (hk' : k ≤ s'.length) (hd : cmpL (s.take k) (s'.take k) ≠ 0 ∨ s.length = k ∨ s'.length = k) : cmpL s s' = cmpL (s.take k) (s'.take k) := by
  have e := cmpL_app (s.take k) (s'.take k) (s.drop k) (s'.drop k) (by simp; omega)
  rw [List.take_append_drop, List.take_append_drop] at e
  rw [e]
  rcases hd with h | h | h
  · unfold lexI; rw [if_neg h]
  · rw [List.drop_eq_nil_of_le (by omega), cmpL, lexI_self]
  · rw [List.drop_eq_nil_of_le (show s'.length ≤ k by omega)]
    have : cmpL (s.drop k) [] = 0 := by cases s.drop k <;> simp [cmpL]
    rw [this, lexI_self]

set_option maxRecDepth 100000 in
set_option maxHeartbeats 8000000 in
theorem compare_any : ∀ (a : Ps) (sva : Value) (b : Ps) (svb : Value) (w : World), PsOk w a sva → PsOk w b svb → smallP a →
    Calls Tryd.prog 44 #[psV a.d sva, psV b.d svb] w fun r w' => r = .returned (.int .i64 (cmpN a b)) ∧ Ext w w' := by
  refine Ps.ind fun hd subs ih sva b svb w hn hn' hsm => ?_
  obtain ⟨hd', subs'⟩ := b
  obtain ⟨A, c, rfl⟩ := hn.shape
  obtain ⟨A', c', rfl⟩ := hn'.shape
  obtain ⟨hlen, hsm⟩ := hsm
  have IH := Lib.hid (fun n hm sv b svb w hn hn' => ih n hm sv b svb w hn hn' (smallPL_mem hsm n hm))
  have HN := Lib.hid hn
  have HN' := Lib.hid hn'
  have HR := Lib.hid (by rw [cmpN] : cmpN (.mk hd subs) (.mk hd' subs') = lexI (lexI (cmpH hd hd') (cmpL subs subs')) (cmpI subs'.length subs.length))
  have HC := Lib.hid (fun x y W => cmpC_any x y W)
  clear ih hsm hn hn'
  generalize cmpN (.mk hd subs) (.mk hd' subs') = res at *
  simp only [Ps.d, Ps.subs] at *
  go_enter Tryd.func44, Tryd.ntmps44
  go_upto_region 1 with (first
    | (refine wpl_boxPs rfl _ rfl hd _ rfl ?_; intro x w1 hb hx1 ex sx)
    | (refine wpl_boxPs rfl _ rfl hd' _ rfl ?_; intro y w2 hc hx2 ey sy))
  have hb2 := hb.ext hx2
  have hx12 := hx1.trans hx2
  clear hb hx1 hx2 ex sx ey sy
  have p0 := cell_plus (show w2.cell? ⟨x, 0, none⟩ = some (.int .i64 hd.a) from hb2.cell 0)
  have p1 := cell_plus (show w2.cell? ⟨x, 1, none⟩ = some (.int .i64 hd.b) from hb2.cell 1)
  have p2 := cell_plus (show w2.cell? ⟨x, 2, none⟩ = some (.int .i64 hd.k) from hb2.cell 2)
  have q0 := cell_plus (show w2.cell? ⟨y, 0, none⟩ = some (.int .i64 hd'.a) from hc.cell 0)
  have q1 := cell_plus (show w2.cell? ⟨y, 1, none⟩ = some (.int .i64 hd'.b) from hc.cell 1)
  have q2 := cell_plus (show w2.cell? ⟨y, 2, none⟩ = some (.int .i64 hd'.k) from hc.cell 2)
  have c3 : w2.cell? ⟨x, 3, none⟩ = some (.slice A subs.length c) := hb2.cell 3
  have d3 : w2.cell? ⟨y, 3, none⟩ = some (.slice A' subs'.length c') := hc.cell 3
  have HH := Lib.hid (show cmpH hd hd' = lexI (cmpI hd.a hd'.a) (lexI (cmpI hd'.b hd.b) (cmpI hd.k hd'.k)) from rfl)
  generalize cmpH hd hd' = ch at *
  clear hb2 hc
  refine wp_region_plus_tail 15 (by kernel_rfl) (by kernel_rfl) ?_
  simp only [List.take_succ_cons, List.take_zero, List.drop_succ_cons, List.drop_zero]
  repeat (go_big_quiet_step ((go_at_call 71; exact Calls.plus_of_same (HC.out _ _ _))))
  refine wpQuiet_nil ?_
  intro z
  clear p0 p1 p2 q0 q1 q2
  go_upto_region 3 with (go_at_call 70; refine (or3 (Blk.new _ _ _)).mono ?_; rintro e w3 ⟨rfl, rfl⟩)
  rw [← HH.out]
  have hx3 := (hx12.trans (plus_ext w2 z)).alloc (.cells #[.int .i64 (cmpI hd.a hd'.a), .int .i64 (cmpI hd'.b hd.b), .int .i64 (cmpI hd.k hd'.k)] 3)
  have hx23 := (plus_ext w2 z).alloc (.cells #[.int .i64 (cmpI hd.a hd'.a), .int .i64 (cmpI hd'.b hd.b), .int .i64 (cmpI hd.k hd'.k)] 3)
  generalize (plus w2 z).alloc (.cells #[.int .i64 (cmpI hd.a hd'.a), .int .i64 (cmpI hd'.b hd.b), .int .i64 (cmpI hd.k hd'.k)] 3) = w3 at *
  replace c3 := hx23.cell c3
  replace d3 := hx23.cell d3
  clear hx23 hx12 HH
  have hx33 := Ext.refl w3
  go_loopw [5, 6] (fun cv i wr => ∃ k : Nat, k ≤ subs.length ∧ k ≤ subs'.length ∧ i = .int .i64 k ∧ cv = .int .i64 (lexI ch (cmpL (subs.take k) (subs'.take k))) ∧ Ext w3 wr) (fun _ i _ => subs.length - (intOf i).toNat)
  case atStart => exact ⟨0, Nat.zero_le _, Nat.zero_le _, rfl, by rw [List.take_zero, List.take_zero, cmpL, lexI_self], hx33⟩
  case round =>
    clear hx33
    obtain ⟨k, hk, hk', rfl, rfl, hx⟩ := hrel
    replace c3 := hx.cell c3
    replace d3 := hx.cell d3
    replace hx3 := hx3.trans hx
    have fin : (lexI ch (cmpL (subs.take k) (subs'.take k)) ≠ 0 ∨ subs.length = k ∨ subs'.length = k) → res = lexI (lexI ch (cmpL (subs.take k) (subs'.take k))) (cmpI subs'.length subs.length) := fun h => by
      rw [HR.out]
      by_cases h0 : ch = 0
      · rw [cmpL_stop hk hk' (by
          rcases h with h | h
          · rw [h0] at h; unfold lexI at h; rw [if_pos rfl] at h; exact .inl h
          · exact .inr h)]
      · have e : ∀ y, lexI ch y = ch := fun y => if_neg h0
        simp only [e]
    by_cases hz : lexI ch (cmpL (subs.take k) (subs'.take k)) = 0
    · by_cases hlt : k < subs.length
      · by_cases hlt' : k < subs'.length
        · obtain ⟨hz1, hz2⟩ := (lexI_zero _ _).1 hz
          have HST := Lib.hid (show lexI ch (cmpL (subs.take (k + 1)) (subs'.take (k + 1))) = cmpN subs[k] subs'[k] by rw [cmpL_step hlt hlt' hz2, hz1]; rfl)
          obtain ⟨g0, o0, sv, rfl, hat, hok⟩ := HN.out.get k hlt
          obtain ⟨g1, o1, sv', rfl, hat', hok'⟩ := HN'.out.get k hlt'
          replace hat := (hat.ext hx3).drew
          replace hat' := (hat'.ext hx3).drew
          have IHk := Lib.hid (IH.out subs[k] (List.getElem_mem hlt) sv subs'[k] sv' wr.drew (hok.ext hx3.drewr) (hok'.ext hx3.drewr))
          clear IH HN HN' HR hok hok' fin hz1 hz2
          generalize lexI ch (cmpL (subs.take k) (subs'.take k)) = cv at *
          subst hz
          generalize cmpN subs[k] subs'[k] = pk at *
          generalize subs[k] = nk at *
          generalize subs'[k] = nk' at *
          have t1 : (k : Int) < (subs.length : Int) := by omega
          have t2 : (k : Int) < (subs'.length : Int) := by omega
          go_upto_region 5 with fail
          refine wp_region_still_tail 10 (by kernel_rfl) (by kernel_rfl) ?_
          simp only [List.take_succ_cons, List.take_zero, List.drop_succ_cons, List.drop_zero]
          repeat still_step
          refine wpStill_loadPs _ rfl rfl g0 (o0 + k * 4) _ sv rfl hat ?_
          repeat still_step
          refine wpStill_loadPs _ rfl rfl g1 (o1 + k * 4) _ sv' rfl hat' ?_
          repeat still_step
          refine wpStill_nil ?_
          change wpList _ _ _ _ _ wr.drew
          clear hat hat'
          go_wp2_with (go_at_call 44; refine IHk.out.mono ?_; rintro e w6 ⟨rfl, hx6⟩)
          go_roundw
          case rel => exact ⟨k + 1, by omega, by omega, by go_num, by rw [HST.out], hx.drewr.trans hx6⟩
          case measure => simp [intOf]; omega
        · have FIN := Lib.hid (fin (.inr (.inr (by omega))))
          have t1 : (k : Int) < (subs.length : Int) := by omega
          have t2 : ¬ (k : Int) < (subs'.length : Int) := by omega
          clear IH HN HN' HR fin
          generalize lexI ch (cmpL (subs.take k) (subs'.take k)) = cv at *
          subst hz
          go_wp2_with (first
            | (go_at_call 71; refine (HC.out _ _ _).mono ?_; rintro e w3 ⟨rfl, rfl⟩)
            | (go_at_call 70; refine (or2i (Blk.new _ _ _)).mono ?_; rintro e w3 ⟨rfl, rfl⟩))
          go_ret
          exact ⟨by rw [FIN.out]; rfl, hx3.alloc _⟩
      · have FIN := Lib.hid (fin (.inr (.inl (by omega))))
        have t1 : ¬ (k : Int) < (subs.length : Int) := by omega
        clear IH HN HN' HR fin
        generalize lexI ch (cmpL (subs.take k) (subs'.take k)) = cv at *
        subst hz
        go_wp2_with (first
          | (go_at_call 71; refine (HC.out _ _ _).mono ?_; rintro e w3 ⟨rfl, rfl⟩)
          | (go_at_call 70; refine (or2i (Blk.new _ _ _)).mono ?_; rintro e w3 ⟨rfl, rfl⟩))
        go_ret
        exact ⟨by rw [FIN.out]; rfl, hx3.alloc _⟩
    · have FIN := Lib.hid (fin (.inl hz))
      clear IH HN HN' HR fin
      generalize lexI ch (cmpL (subs.take k) (subs'.take k)) = cv at *
      have t1 : (cv == 0) = false := by simpa using hz
      go_wp2_with (first
        | (go_at_call 71; refine (HC.out _ _ _).mono ?_; rintro e w3 ⟨rfl, rfl⟩)
        | (go_at_call 70; refine (or2i (Blk.new _ _ _)).mono ?_; rintro e w3 ⟨rfl, rfl⟩))
      go_ret
      exact ⟨by rw [FIN.out]; rfl, hx3.alloc _⟩

theorem rcmp_fin {ch a b : Int} (h : lexI ch a ≠ 0) : lexI (lexI ch a) b = lexI ch a := by unfold lexI at *; rw [if_neg h]

set_option maxRecDepth 100000 in
set_option maxHeartbeats 8000000 in
theorem rcompare_any : ∀ (a : Ps) (sva : Value) (b : Ps) (svb : Value) (w : World), PsOk w a sva → PsOk w b svb → smallP a →
    Calls Tryd.prog 45 #[psV a.d sva, psV b.d svb] w fun r w' => r = .returned (.int .i64 (cmpN a b)) ∧ Ext w w' := by
  refine Ps.ind fun hd subs ih sva b svb w hn hn' hsm => ?_
  obtain ⟨hd', subs'⟩ := b
  obtain ⟨A, c, rfl⟩ := hn.shape
  obtain ⟨A', c', rfl⟩ := hn'.shape
  obtain ⟨hlen, hsm⟩ := hsm
  have IH := Lib.hid (fun n hm sv b svb w hn hn' => ih n hm sv b svb w hn hn' (smallPL_mem hsm n hm))
  have HN := Lib.hid hn
  have HN' := Lib.hid hn'
  have HR := Lib.hid (by rw [cmpN] : cmpN (.mk hd subs) (.mk hd' subs') = lexI (lexI (cmpH hd hd') (cmpL subs subs')) (cmpI subs'.length subs.length))
  clear ih hsm hn hn'
  generalize cmpN (.mk hd subs) (.mk hd' subs') = res at *
  simp only [Ps.d, Ps.subs] at *
  go_enter Tryd.func45, Tryd.ntmps45
  go_upto_region 1 with (first
    | (refine wpl_boxPs rfl _ rfl hd _ rfl ?_; intro x w1 hb hx1 ex sx)
    | (refine wpl_boxPs rfl _ rfl hd' _ rfl ?_; intro y w2 hc hx2 ey sy))
  have hb2 := hb.ext hx2
  have hx12 := hx1.trans hx2
  clear hb hx1 hx2 ex sx ey sy
  have c0 : w2.cell? ⟨x, 0, none⟩ = some (.int .i64 hd.a) := hb2.cell 0
  have c1 : w2.cell? ⟨x, 1, none⟩ = some (.int .i64 hd.b) := hb2.cell 1
  have c2 : w2.cell? ⟨x, 2, none⟩ = some (.int .i64 hd.k) := hb2.cell 2
  have c3 : w2.cell? ⟨x, 3, none⟩ = some (.slice A subs.length c) := hb2.cell 3
  have d0 : w2.cell? ⟨y, 0, none⟩ = some (.int .i64 hd'.a) := hc.cell 0
  have d1 : w2.cell? ⟨y, 1, none⟩ = some (.int .i64 hd'.b) := hc.cell 1
  have d2 : w2.cell? ⟨y, 2, none⟩ = some (.int .i64 hd'.k) := hc.cell 2
  have d3 : w2.cell? ⟨y, 3, none⟩ = some (.slice A' subs'.length c') := hc.cell 3
  clear hb2 hc
  have HH := Lib.hid (show cmpH hd hd' = lexI (cmpI hd.a hd'.a) (lexI (cmpI hd'.b hd.b) (cmpI hd.k hd'.k)) from rfl)
  obtain ⟨a, b, k⟩ := hd
  obtain ⟨a', b', k'⟩ := hd'
  simp only at *
  have hcase : (a < a' ∧ cmpH ⟨a, b, k⟩ ⟨a', b', k'⟩ = -1) ∨ (¬ a < a' ∧ a' < a ∧ cmpH ⟨a, b, k⟩ ⟨a', b', k'⟩ = 1) ∨ (a = a' ∧ b' < b ∧ cmpH ⟨a, b, k⟩ ⟨a', b', k'⟩ = -1) ∨ (a = a' ∧ ¬ b' < b ∧ b < b' ∧ cmpH ⟨a, b, k⟩ ⟨a', b', k'⟩ = 1) ∨
      (a = a' ∧ b = b' ∧ k < k' ∧ cmpH ⟨a, b, k⟩ ⟨a', b', k'⟩ = -1) ∨ (a = a' ∧ b = b' ∧ ¬ k < k' ∧ k' < k ∧ cmpH ⟨a, b, k⟩ ⟨a', b', k'⟩ = 1) ∨ (a = a' ∧ b = b' ∧ k = k' ∧ cmpH ⟨a, b, k⟩ ⟨a', b', k'⟩ = 0) := by
    have h := HH.out
    generalize cmpH ⟨a, b, k⟩ ⟨a', b', k'⟩ = t at *
    subst h
    unfold lexI cmpI
    split <;> (try split) <;> (try split) <;> (try split) <;> (try split) <;> (try split) <;> (try split) <;> omega
  clear HH
  generalize cmpH ⟨a, b, k⟩ ⟨a', b', k'⟩ = ch at *
  have other : ∀ z, ch = z → z ≠ 0 → res = z := fun z hz h0 => by
    rw [HR.out, hz]
    have e : ∀ y, lexI z y = z := fun y => if_neg h0
    rw [e, e]
  have OT := Lib.hid other
  clear other
  rcases hcase with ⟨h1, hz⟩ | ⟨h1, h2, hz⟩ | ⟨rfl, h1, hz⟩ | ⟨rfl, h1, h2, hz⟩ | ⟨rfl, rfl, h1, hz⟩ | ⟨rfl, rfl, h1, h2, hz⟩ | ⟨rfl, rfl, rfl, hz⟩
  iterate 6
    · have FIN := Lib.hid (OT.out _ hz (by decide))
      clear HR OT IH HN HN' hz
      go_wp2
      go_ret
      exact ⟨by rw [FIN.out]; rfl, hx12⟩
  have HR2 := Lib.hid (show res = lexI (cmpL subs subs') (cmpI subs'.length subs.length) by rw [HR.out, hz]; rfl)
  clear HR OT hz
  go_upto_region 14 with fail
  have hx22 := Ext.refl w2
  go_loopw [5] (fun i wr => ∃ k : Nat, k ≤ subs.length ∧ k ≤ subs'.length ∧ i = .int .i64 k ∧ cmpL (subs.take k) (subs'.take k) = 0 ∧ Ext w2 wr) (fun i _ => subs.length - (intOf i).toNat)
  case atStart => exact ⟨0, Nat.zero_le _, Nat.zero_le _, rfl, by rw [List.take_zero, List.take_zero, cmpL], hx22⟩
  case round =>
    clear hx22
    obtain ⟨k, hk, hk', rfl, hz, hx⟩ := hrel
    replace c3 := hx.cell c3
    replace d3 := hx.cell d3
    replace hx12 := hx12.trans hx
    have HZ := Lib.hid hz
    clear hz c0 c1 c2 d0 d1 d2
    by_cases hlt : k < subs.length
    · by_cases hlt' : k < subs'.length
      · have HST := Lib.hid (cmpL_step hlt hlt' HZ.out)
        have HSP := Lib.hid (cmpL_stop (k := k + 1) (s := subs) (s' := subs') (by omega) (by omega))
        obtain ⟨g0, o0, sv, rfl, hat, hok⟩ := HN.out.get k hlt
        obtain ⟨g1, o1, sv', rfl, hat', hok'⟩ := HN'.out.get k hlt'
        replace hat := (hat.ext hx12).drew
        replace hat' := (hat'.ext hx12).drew
        have IHk := Lib.hid (IH.out subs[k] (List.getElem_mem hlt) sv subs'[k] sv' wr.drew (hok.ext hx12.drewr) (hok'.ext hx12.drewr))
        clear IH HN HN' hok hok'
        generalize cmpN subs[k] subs'[k] = pk at *
        generalize subs[k] = nk at *
        generalize subs'[k] = nk' at *
        have t1 : (k : Int) < (subs.length : Int) := by omega
        have t2 : (k : Int) < (subs'.length : Int) := by omega
        go_upto_region 16 with fail
        refine wp_region_still_tail 10 (by kernel_rfl) (by kernel_rfl) ?_
        simp only [List.take_succ_cons, List.take_zero, List.drop_succ_cons, List.drop_zero]
        repeat still_step
        refine wpStill_loadPs _ rfl rfl g0 (o0 + k * 4) _ sv rfl hat ?_
        repeat still_step
        refine wpStill_loadPs _ rfl rfl g1 (o1 + k * 4) _ sv' rfl hat' ?_
        repeat still_step
        refine wpStill_nil ?_
        change wpList _ _ _ _ _ wr.drew
        clear hat hat'
        by_cases hp : pk = 0
        · have e1 : (pk != 0) = false := by simpa using hp
          have HP := Lib.hid hp
          clear hp
          go_wp2_with (go_at_call 45; refine IHk.out.mono ?_; rintro e w6 ⟨rfl, hx6⟩)
          go_roundw
          case rel => exact ⟨k + 1, by omega, by omega, by go_num, HST.out.trans HP.out, hx.drewr.trans hx6⟩
          case measure => simp [intOf]; omega
        · have e1 : (pk != 0) = true := by simpa using hp
          have FIN := Lib.hid (show res = pk by
            rw [HR2.out, HSP.out (.inl (by rw [HST.out]; exact hp)), HST.out]
            exact if_neg hp)
          clear HR2 HSP HST hp
          go_wp2_with (go_at_call 45; refine IHk.out.mono ?_; rintro e w6 ⟨rfl, hx6⟩)
          go_ret
          exact ⟨by rw [FIN.out]; rfl, hx12.drewr.trans hx6⟩
      · have FIN := Lib.hid (show res = -1 by
          rw [HR2.out, cmpL_stop hk hk' (.inr (.inr (by omega))), HZ.out]
          show cmpI _ _ = -1
          exact cmpI_less.2 (by omega))
        have t1 : (k : Int) < (subs.length : Int) := by omega
        have t2 : ¬ (k : Int) < (subs'.length : Int) := by omega
        have t3 : (subs'.length : Int) < (subs.length : Int) := by omega
        clear IH HN HN' HR2
        go_wp2
        go_ret
        exact ⟨by rw [FIN.out]; rfl, hx12⟩
    · have hf : res = cmpI subs'.length subs.length := by
        rw [HR2.out, cmpL_stop hk hk' (.inr (.inl (by omega))), HZ.out]
        rfl
      have t1 : ¬ (k : Int) < (subs.length : Int) := by omega
      have t3 : ¬ (subs'.length : Int) < (subs.length : Int) := by omega
      clear IH HN HN' HR2
      by_cases t4 : (subs.length : Int) < (subs'.length : Int)
      · have FIN := Lib.hid (show res = 1 by rw [hf]; unfold cmpI; rw [if_neg t3, if_pos t4])
        clear hf
        go_wp2
        go_ret
        exact ⟨by rw [FIN.out]; rfl, hx12⟩
      · have FIN := Lib.hid (show res = 0 by rw [hf]; unfold cmpI; rw [if_neg t3, if_neg t4])
        clear hf
        go_wp2
        go_ret
        exact ⟨by rw [FIN.out]; rfl, hx12⟩

theorem samePL_app : ∀ (a b c d : List Ps), a.length = b.length → samePL (a ++ c) (b ++ d) = (samePL a b && samePL c d)
  | [], [], _, _, _ => by simp [samePL]
  | x :: a, y :: b, c, d, h => by
    show samePL (x :: (a ++ c)) (y :: (b ++ d)) = _
    rw [samePL, samePL, samePL_app a b c d (by simpa using h), Bool.and_assoc]
  | [], _ :: _, _, _, h => by cases h
  | _ :: _, [], _, _, h => by cases h
theorem samePL_one (a b : Ps) : samePL [a] [b] = samePs a b := by simp [samePL]
theorem samePL_step {s s' : List Ps} {k : Nat} (h : k < s.length) (h' : k < s'.length) (ht : samePL (s.take k) (s'.take k) = true) : samePL (s.take (k + 1)) (s'.take (k + 1)) = samePs s[k] s'[k] := by
  rw [take_snoc s k h, take_snoc s' k h', samePL_app _ _ _ _ (by simp; omega), ht, samePL_one, Bool.true_and]
theorem samePL_stop {s s' : List Ps} {k : Nat} (h : k < s.length) (h' : k < s'.length) (ht : samePs s[k] s'[k] = false) : samePL s s' = false := by
  have e : s = s.take k ++ s[k] :: s.drop (k + 1) := by rw [← List.drop_eq_getElem_cons h, List.take_append_drop]
  have e' : s' = s'.take k ++ s'[k] :: s'.drop (k + 1) := by rw [← List.drop_eq_getElem_cons h', List.take_append_drop]
  have h1 : samePL (s.take k ++ s[k] :: s.drop (k + 1)) (s'.take k ++ s'[k] :: s'.drop (k + 1)) = false := by
    rw [samePL_app _ _ _ _ (by simp; omega), samePL, ht, Bool.false_and, Bool.and_false]
  rw [← e, ← e'] at h1
  exact h1

set_option maxRecDepth 100000 in
set_option maxHeartbeats 8000000 in
theorem sameParse_any : ∀ (a : Ps) (sva : Value) (b : Ps) (svb : Value) (w : World), PsOk w a sva → PsOk w b svb → smallP a →
    Calls Tryd.prog 46 #[psV a.d sva, psV b.d svb] w fun r w' => r = .returned (.bool (samePs a b)) ∧ Ext w w' := by
  refine Ps.ind fun hd subs ih sva b svb w hn hn' hsm => ?_
  obtain ⟨hd', subs'⟩ := b
  obtain ⟨A, c, rfl⟩ := hn.shape
  obtain ⟨A', c', rfl⟩ := hn'.shape
  obtain ⟨hlen, hsm⟩ := hsm
  have IH := Lib.hid (fun n hm sv b svb w hn hn' => ih n hm sv b svb w hn hn' (smallPL_mem hsm n hm))
  have HN := Lib.hid hn
  have HN' := Lib.hid hn'
  have HR := Lib.hid (by rw [samePs] : samePs (.mk hd subs) (.mk hd' subs') = (decide (hd.a = hd'.a ∧ hd.b = hd'.b ∧ hd.k = hd'.k) && decide (subs.length = subs'.length) && samePL subs subs'))
  clear ih hsm hn hn'
  generalize samePs (.mk hd subs) (.mk hd' subs') = res at *
  simp only [Ps.d, Ps.subs] at *
  go_enter Tryd.func46, Tryd.ntmps46
  go_upto_region 1 with (first
    | (refine wpl_boxPs rfl _ rfl hd _ rfl ?_; intro x w1 hb hx1 ex sx)
    | (refine wpl_boxPs rfl _ rfl hd' _ rfl ?_; intro y w2 hc hx2 ey sy))
  have hb2 := hb.ext hx2
  have hx12 := hx1.trans hx2
  clear hb hx1 hx2 ex sx ey sy
  have c0 : w2.cell? ⟨x, 0, none⟩ = some (.int .i64 hd.a) := hb2.cell 0
  have c1 : w2.cell? ⟨x, 1, none⟩ = some (.int .i64 hd.b) := hb2.cell 1
  have c2 : w2.cell? ⟨x, 2, none⟩ = some (.int .i64 hd.k) := hb2.cell 2
  have c3 : w2.cell? ⟨x, 3, none⟩ = some (.slice A subs.length c) := hb2.cell 3
  have d0 : w2.cell? ⟨y, 0, none⟩ = some (.int .i64 hd'.a) := hc.cell 0
  have d1 : w2.cell? ⟨y, 1, none⟩ = some (.int .i64 hd'.b) := hc.cell 1
  have d2 : w2.cell? ⟨y, 2, none⟩ = some (.int .i64 hd'.k) := hc.cell 2
  have d3 : w2.cell? ⟨y, 3, none⟩ = some (.slice A' subs'.length c') := hc.cell 3
  clear hb2 hc
  obtain ⟨a, b, k⟩ := hd
  obtain ⟨a', b', k'⟩ := hd'
  simp only at *
  by_cases t : (a = a' ∧ b = b' ∧ k = k') ∧ subs.length = subs'.length
  case neg =>
    have FIN := Lib.hid (show res = false by
      rw [HR.out, Bool.eq_false_iff]
      intro h
      rw [Bool.and_eq_true, Bool.and_eq_true, decide_eq_true_eq, decide_eq_true_eq] at h
      exact t h.1)
    clear HR IH HN HN'
    have e0 : ((subs.length : Int) != (subs'.length : Int)) = !decide (subs.length = subs'.length) := by
      by_cases h : subs.length = subs'.length
      · simp [h]
      · have h2 : ¬ ((subs.length : Int) = (subs'.length : Int)) := by omega
        simp [h, h2]
    by_cases t1 : a = a'
    case' neg => have e1 : (a != a') = true := by simpa using t1
    case' pos =>
      subst t1
      by_cases t2 : b = b'
      case' neg => have e1 : (b != b') = true := by simpa using t2
      case' pos =>
        subst t2
        by_cases t3 : k = k'
        case' neg => have e1 : (k != k') = true := by simpa using t3
        case' pos =>
          subst t3
          have t4 : subs.length ≠ subs'.length := fun h => t ⟨⟨rfl, rfl, rfl⟩, h⟩
          rw [decide_eq_false t4] at e0
    all_goals
      clear t
      go_wp2
      go_ret
      exact ⟨by rw [FIN.out]; rfl, hx12⟩
  obtain ⟨⟨rfl, rfl, rfl⟩, hll⟩ := t
  have HR2 := Lib.hid (show res = samePL subs subs' by rw [HR.out, hll]; simp)
  have e0 : ((subs.length : Int) != (subs'.length : Int)) = false := by rw [hll]; simp
  have HLL := Lib.hid hll
  clear HR hll
  go_upto_region 4 with fail
  clear c0 c1 c2 d0 d1 d2 e0
  have hx22 := Ext.refl w2
  go_loopw [37] (fun i wr => ∃ k : Nat, k ≤ subs.length ∧ i = .int .i64 k ∧ samePL (subs.take k) (subs'.take k) = true ∧ Ext w2 wr) (fun i _ => subs.length - (intOf i).toNat)
  case atStart => exact ⟨0, Nat.zero_le _, rfl, by rw [List.take_zero, samePL], hx22⟩
  case round =>
    clear hx22
    obtain ⟨k, hk, rfl, hz, hx⟩ := hrel
    replace c3 := hx.cell c3
    replace d3 := hx.cell d3
    replace hx12 := hx12.trans hx
    have HZ := Lib.hid hz
    clear hz
    by_cases hlt : k < subs.length
    · have hlt' : k < subs'.length := HLL.out ▸ hlt
      have HST := Lib.hid (samePL_step hlt hlt' HZ.out)
      have HEN := Lib.hid (fun h => samePL_stop hlt hlt' h)
      obtain ⟨g0, o0, sv, rfl, hat, hok⟩ := HN.out.get k hlt
      obtain ⟨g1, o1, sv', rfl, hat', hok'⟩ := HN'.out.get k hlt'
      replace hat := (hat.ext hx12).drew
      replace hat' := (hat'.ext hx12).drew
      have IHk := Lib.hid (IH.out subs[k] (List.getElem_mem hlt) sv subs'[k] sv' wr.drew (hok.ext hx12.drewr) (hok'.ext hx12.drewr))
      clear IH HN HN' hok hok'
      generalize samePs subs[k] subs'[k] = pk at *
      generalize subs[k] = nk at *
      generalize subs'[k] = nk' at *
      have t1 : (k : Int) < (subs.length : Int) := by omega
      have t2 : (k : Int) < (subs'.length : Int) := by omega
      go_upto_region 6 with fail
      refine wp_region_still_tail 10 (by kernel_rfl) (by kernel_rfl) ?_
      simp only [List.take_succ_cons, List.take_zero, List.drop_succ_cons, List.drop_zero]
      repeat still_step
      refine wpStill_loadPs _ rfl rfl g0 (o0 + k * 4) _ sv rfl hat ?_
      repeat still_step
      refine wpStill_loadPs _ rfl rfl g1 (o1 + k * 4) _ sv' rfl hat' ?_
      repeat still_step
      refine wpStill_nil ?_
      change wpList _ _ _ _ _ wr.drew
      clear hat hat'
      cases pk
      all_goals
        go_wp2_with (go_at_call 46; refine IHk.out.mono ?_; rintro e w6 ⟨rfl, hx6⟩)
      · go_ret
        exact ⟨by rw [HR2.out, HEN.out trivial]; rfl, hx12.drewr.trans hx6⟩
      · go_roundw
        case rel => exact ⟨k + 1, by omega, by go_num, HST.out, hx.drewr.trans hx6⟩
        case measure => simp [intOf]; omega
    · have hkl : subs.take k = subs := List.take_of_length_le (by omega)
      have hkl' : subs'.take k = subs' := List.take_of_length_le (by have := HLL.out; omega)
      rw [hkl, hkl'] at HZ
      have t1 : ¬ (k : Int) < (subs.length : Int) := by omega
      clear IH HN HN' hkl hkl'
      go_wp2
      go_ret
      exact ⟨by rw [HR2.out, HZ.out]; rfl, hx12⟩

end Go.Proofs.YthddlhpndaffjaaDoor
