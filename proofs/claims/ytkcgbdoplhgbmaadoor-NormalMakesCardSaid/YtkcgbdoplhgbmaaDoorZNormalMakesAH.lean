/- normal.alt as a contract, walked. Condition: the trees lie in memory, clean and in form. normal.repeat as a contract. Condition: the trees lie in memory. normal.simple, form and Normal as contracts. Condition: the tree lies in memory, clean; the error values lie where they lie. normal.form and Normal as contracts. Condition: the tree lies in memory, clean; the error values lie where they lie. -/
import Derived.Test.YtkcgbdoplhgbmaaDoorZNormalMakesAB
import Derived.Test.YtkcgbdoplhgbmaaDoorZNormalMakesAG
import Derived.WalkMore
import Derived.Test.YtkcgbdoplhgbmaaDoorNwB
import Derived.Test.YtkcgbdoplhgbmaaDoorZNormalMakesAD
import Derived.Test.YtkcgbdoplhgbmaaDoorZNormalMakesAE
namespace Go.Proofs.YtkcgbdoplhgbmaaDoor
open Go Go.RowKit

set_option maxRecDepth 100000 in
set_option maxHeartbeats 16000000 in
theorem nalt_any (ns : List Nd) (lv : Value) (w : World) (hn : NdOk w (.mk (hdV 0) ns) lv) (hcnt : cntL ns ≤ 1000000) :
    Calls Tryd.prog 107 #[lv] w (RetNd w (altO ns)) := by
  obtain ⟨A, c, rfl⟩ := hn.shape
  have HN := Lib.hid hn
  have HLEN := Lib.hid (fun k : Nat => (by
    have h1 := cnt_altK (ns.take k) []
    have h2 := cntL_take ns k
    have h3 := cntL_len ((ns.take k).foldl altAdd [])
    simp only [cntL] at h1
    omega : ((ns.take k).foldl altAdd []).length ≤ 1000000))
  have HALT := Lib.hid (fun W v (h : NdOk W (.mk (hdV 0) (ns.foldl altAdd [])) v) => (by
    refine alt_any (ns.foldl altAdd []) v W h ⟨?_, cnt_smallL _ ?_⟩
    · have h1 := HLEN.out ns.length
      rw [List.take_length] at h1
      exact h1
    · have h1 := cnt_altK ns []
      simp only [cntL] at h1
      omega : Calls Tryd.prog 126 #[v] W (RetNd W (altO ns))))
  have HNT := Lib.hid (fun W h sv => nth_any h sv W)
  have HSM := Lib.hid (fun k : Nat => (by
    have h1 := cnt_altK (ns.take k) []
    have h2 := cntL_take ns k
    simp only [cntL] at h1
    exact cnt_smallL _ (by omega) : smallL ((ns.take k).foldl altAdd [])))
  have hsl : ns.length ≤ 1000000 := by have := cntL_len ns; omega
  clear hn hcnt
  generalize altO ns = res at *
  simp only [Nd.subs] at *
  go_enter Tryd.func107, Tryd.ntmps107
  go_upto_region 1 with (refine wpl_allocNd rfl rfl ?_; intro z w2 hz hx2 ez sz)
  have hx22 : Ext w2 w2 := Ext.refl w2
  have hL0 : LstIn w2 w2.heap.size (.slice none 0 0) [] := LstIn.nil _ _
  go_step3
  go_wp2
  go_step3
  go_wp2
  go_loopw [3, 4, 11] (fun v av i wr => ∃ (k : Nat) (l : List (Nd × Value)) (a : Int), k ≤ ns.length ∧ i = .int .i64 k ∧ av = .int .i64 a ∧ l.map (·.1) = (ns.take k).foldl altAdd [] ∧ Hid (AtOk (l.map (·.1)) a) ∧ LstIn wr w2.heap.size v l ∧ Ext w2 wr) (fun _ _ i _ => ns.length - (intOf i).toNat)
  case atStart => exact ⟨0, [], -1, Nat.zero_le _, rfl, rfl, rfl, Lib.hid AtOk.nil, hL0, hx22⟩
  case round =>
    clear hL0 hx22
    obtain ⟨k, l, a, hk, rfl, rfl, hl, HA, hL, hx⟩ := hrel
    have hxw := hx2.trans hx
    have hzr := hz.ext hx
    obtain ⟨A3, c3, rfl, hc3⟩ := hL.len
    by_cases hlt : k < ns.length
    · obtain ⟨g0, o0, sv, rfl, hat, hok⟩ := HN.out.get k hlt
      replace hat := hat.ext hxw
      have hll : l.length ≤ 1000000 := by have := congrArg List.length hl; rw [List.length_map] at this; rw [this]; exact HLEN.out k
      have HP := Lib.hid (show altAdd (l.map (·.1)) ns[k] = (ns.take (k + 1)).foldl altAdd [] by rw [hl, take_snoc ns k hlt, List.foldl_append]; rfl)
      have HSL := Lib.hid (by have := HSM.out k; rwa [← hl] at this : smallL (l.map (·.1)))
      have hsl := hok.sl
      have HOKK := Lib.hid hok
      clear HN HLEN hok hl HALT HSM
      generalize ns[k] = nk at *
      have d1 : (k : Int) < (ns.length : Int) := by omega
      go_upto_region 6 with (first
        | (refine wpl_loadNd rfl _ rfl g0 (o0 + k * 10) nk.h sv rfl hat ?_)
        | (refine wpl_allocNd rfl rfl ?_; intro s w4 hs hx4 es ss)
        | (refine wpl_storeNd rfl _ _ rfl rfl s nk.h _ sv _ rfl rfl hsl hs ?_; intro w5 hs5 hk5; have hx5 := hx4.keep1 hk5 es))
      have hsw := hs5.lt
      clear hs hx4 ss hk5 hat
      by_cases hnt : nthB nk = true
      · have HAD := Lib.hid (by unfold altAdd; rw [if_pos hnt] : altAdd (l.map (·.1)) nk = l.map (·.1))
        have hnh : nthH nk.h = true := hnt
        have HN1 := Lib.hid (by have := HNT.out w5 nk.h sv; rwa [hnh] at this : Calls Tryd.prog 124 #[nodeV nk.h sv] w5 fun r w' => r = .returned (.bool true) ∧ Ext w5 w')
        clear HNT hnh hnt HSL HOKK
        go_wp2_with (first
          | (refine wpl_loadNd rfl _ rfl s 0 nk.h _ rfl hs5.nd ?_)
          | (go_at_call 124; refine HN1.out.mono ?_; rintro e w6 ⟨rfl, hx6⟩))
        go_roundw
        case rel => exact ⟨k + 1, l, a, by omega, by go_num, rfl, by rw [← HP.out, HAD.out], HA, hL.ext (hx5.trans hx6), hx.trans (hx5.trans hx6)⟩
        case measure => simp [intOf]; omega
      have hnf : nthB nk = false := by simpa using hnt
      have hnh : nthH nk.h = false := hnf
      have HN1 := Lib.hid (by have := HNT.out w5 nk.h sv; rwa [hnh] at this : Calls Tryd.prog 124 #[nodeV nk.h sv] w5 fun r w' => r = .returned (.bool false) ∧ Ext w5 w')
      have HAD := Lib.hid (show altAdd (l.map (·.1)) nk = if nk.h.kind = 2 ∧ bytesIn (l.map (·.1)) = true then joinAt (l.map (·.1)) nk.h.set else if seenIn (l.map (·.1)) nk = true then l.map (·.1) else l.map (·.1) ++ [nk] by unfold altAdd; rw [if_neg hnt])
      clear HNT hnh hnt hnf
      go_upto_region 7 with (first
        | (refine wpl_loadNd rfl _ rfl s 0 nk.h _ rfl hs5.nd ?_)
        | (go_at_call 124; refine HN1.out.mono ?_; rintro e w6 ⟨rfl, hx6⟩))
      have hs6 := hs5.ext hx6
      have hx56 := hx5.trans hx6
      have hL6 := hL.ext hx56
      have hk0 : w6.cell? ⟨s, 0, none⟩ = some (.int .i64 nk.h.kind) := hs6.cell 0
      have hB6 : w2.heap.size ≤ w6.heap.size := by have := hx.size; have := hx56.size; omega
      have hxw6 := hxw.trans hx56
      have hx26 := hx.trans hx56
      have HSB := Lib.hid (fun i hi => (by have := hL.ownB i hi; omega : i ≠ s) : ∀ i, (Value.slice A3 l.length c3).ownBlock = some i → i ≠ s)
      clear hx5 hs5 HN1 hx6 hL hx hxw hzr
      by_cases hj : nk.h.kind = 2 ∧ 0 ≤ a
      · -- the set joined
        obtain ⟨k2, ha⟩ := hj
        obtain ⟨i, rfl⟩ : ∃ i : Nat, a = i := ⟨a.toNat, by omega⟩
        obtain ⟨m, hm, hmk, hjn, hat'⟩ := AtOk.join HA.out nk.h.set
        rw [List.getElem?_map] at hm
        obtain ⟨⟨m', sm⟩, hmi, rfl⟩ := Option.map_eq_some_iff.1 hm
        have hil : i < l.length := (List.getElem?_eq_some_iff.1 hmi).1
        have HAD2 := Lib.hid (HAD.out.trans (if_pos ⟨k2, AtOk.bytes HA.out⟩))
        obtain ⟨gl, capl, e1, _, _, _⟩ := hL6.own.form (by simp; omega)
        simp only [Value.slice.injEq] at e1
        obtain ⟨rfl, eL, rfl⟩ := e1
        clear eL
        have hcell : ∀ j, j < 10 → w6.cell? ⟨gl, i * 10 + j, none⟩ = (nodeC m'.h sm)[j]? := fun j hj => hL6.own.cell i _ (by rw [List.getElem?_map, hmi]; rfl) j hj
        have s1 : w6.cell? ⟨gl, i * 10 + 1, none⟩ = some (.int .u64 (wd m'.h.set 0 : Int)) := hcell 1 (by omega)
        have s2 : w6.cell? ⟨gl, i * 10 + 1 + 1, none⟩ = some (.int .u64 (wd m'.h.set 1 : Int)) := hcell 2 (by omega)
        have s3 : w6.cell? ⟨gl, i * 10 + 1 + 2, none⟩ = some (.int .u64 (wd m'.h.set 2 : Int)) := hcell 3 (by omega)
        have s4 : w6.cell? ⟨gl, i * 10 + 1 + 3, none⟩ = some (.int .u64 (wd m'.h.set 3 : Int)) := hcell 4 (by omega)
        have q1 : w6.cell? ⟨s, 1, none⟩ = some (.int .u64 (wd nk.h.set 0 : Int)) := hs6.cell 1
        have q2 : w6.cell? ⟨s, 2, none⟩ = some (.int .u64 (wd nk.h.set 1 : Int)) := hs6.cell 2
        have q3 : w6.cell? ⟨s, 3, none⟩ = some (.int .u64 (wd nk.h.set 2 : Int)) := hs6.cell 3
        have q4 : w6.cell? ⟨s, 4, none⟩ = some (.int .u64 (wd nk.h.set 3 : Int)) := hs6.cell 4
        have HS := Lib.hid (⟨s1, s2, s3, s4⟩ : _ ∧ _ ∧ _ ∧ _)
        have HQ := Lib.hid (⟨q1, q2, q3, q4⟩ : _ ∧ _ ∧ _ ∧ _)
        have HJ := Lib.hid hjn
        have HAT := Lib.hid hat'
        have d2 : (i : Int) < (l.length : Int) := by omega
        have d3 : (0 : Int) ≤ (i : Int) := by omega
        rw [k2] at hk0
        have HMI := Lib.hid hmi
        clear hm hmk hjn hat' hmi HAD HA hcell s1 s2 s3 s4 q1 q2 q3 q4 k2 HSL HOKK
        generalize hpm : m'.h.set = pm at *
        generalize hqm : nk.h.set = qm at *
        clear hpm hqm
        go_upto_region 9 with fail
        refine wp_region_tagz 22 11 [.one (.slice (some ⟨gl, 0, none⟩) l.length c3), .one (.int .i64 i), .one (.slice (some ⟨gl, 0, none⟩) l.length c3), .one (.int .i64 i), .one (.pointer (some ⟨gl, i * 10, none⟩)), .one (.pointer (some ⟨gl, i * 10 + 1, none⟩)), .set pm, .one (.pointer (some ⟨s, 1, none⟩)), .set qm, .sl [pm, qm], .set (orS pm qm)] (by kernel_rfl) (by kernel_rfl) (by kernel_rfl) (by kernel_rfl) (by kernel_rfl) (by kernel_rfl) (by kernel_rfl) ?_
        intro T hT
        have r11 : List.range 11 = [0, 1, 2, 3, 4, 5, 6, 7, 8, 9, 10] := rfl
        simp only [spliceT, r11, List.map_cons, List.map_nil, List.take_succ_cons, List.take_zero, List.drop_succ_cons, List.drop_zero, List.cons_append, List.nil_append, Nat.reduceAdd] at hT
        simp only [List.take_succ_cons, List.take_zero, List.drop_succ_cons, List.drop_zero, AllS, Nat.reduceAdd]
        refine ⟨⟨?_, ?_, ?_, ?_, ?_, ?_, ?_, ?_, ?_, ?_, ?_, trivial⟩, ?_⟩
        · intro u W hx hd
          clear hd
          rw [hT u]
          go_wp2
          exact stepQ_mk ⟨Ext.refl _, _, by (try rw [hT]); simp [updN], put_one rfl⟩
        · intro u W hx hd
          clear hd
          rw [hT u]
          go_wp2
          exact stepQ_mk ⟨Ext.refl _, _, by (try rw [hT]); simp [updN], put_one rfl⟩
        · intro u W hx hd
          clear hd
          rw [hT u]
          go_wp2
          exact stepQ_mk ⟨Ext.refl _, _, by (try rw [hT]); simp [updN], put_one rfl⟩
        · intro u W hx hd
          clear hd
          rw [hT u]
          go_wp2
          exact stepQ_mk ⟨Ext.refl _, _, by (try rw [hT]); simp [updN], put_one rfl⟩
        · intro u W hx hd
          have t2 := get_one (v := u 2) rfl (hd 2 (mem_of (by kernel_rfl)))
          have t3 := get_one (v := u 3) rfl (hd 3 (mem_of (by kernel_rfl)))
          clear hd
          rw [hT u, t2, t3]
          go_wp2
          exact stepQ_mk ⟨Ext.refl _, _, by (try rw [hT]); simp [updN, t2, t3], put_one rfl⟩
        · intro u W hx hd
          have t4 := get_one (v := u 4) rfl (hd 4 (mem_of (by kernel_rfl)))
          clear hd
          rw [hT u, t4]
          refine wpl_setAddr rfl _ rfl gl (i * 10) rfl ?_
          exact stepQ_mk ⟨Ext.refl _, _, by (try rw [hT]); simp [updN, t4, Act.put], put_one rfl⟩
        · intro u W hx hd
          have t5 := get_one (v := u 5) rfl (hd 5 (mem_of (by kernel_rfl)))
          clear hd
          rw [hT u, t5]
          have s1 := hx.cell HS.out.1
          have s2 := hx.cell HS.out.2.1
          have s3 := hx.cell HS.out.2.2.1
          have s4 := hx.cell HS.out.2.2.2
          go_wp2
          exact stepQ_mk ⟨Ext.refl _, _, by (try rw [hT]); simp [updN, t5], put_set rfl⟩
        · intro u W hx hd
          clear hd
          rw [hT u]
          refine wpl_setAddr rfl _ rfl s 0 rfl ?_
          exact stepQ_mk ⟨Ext.refl _, _, by (try rw [hT]); simp [updN, Act.put], put_one rfl⟩
        · intro u W hx hd
          have t7 := get_one (v := u 7) rfl (hd 7 (mem_of (by kernel_rfl)))
          clear hd
          rw [hT u, t7]
          have s1 := hx.cell HQ.out.1
          have s2 := hx.cell HQ.out.2.1
          have s3 := hx.cell HQ.out.2.2.1
          have s4 := hx.cell HQ.out.2.2.2
          go_wp2
          exact stepQ_mk ⟨Ext.refl _, _, by (try rw [hT]); simp [updN, t7], put_set rfl⟩
        · intro u W hx hd
          have t6 := get_set (v := u 6) rfl (hd 6 (mem_of (by kernel_rfl)))
          have t8 := get_set (v := u 8) rfl (hd 8 (mem_of (by kernel_rfl)))
          clear hd
          rw [hT u, t6, t8]
          go_wp2
          exact stepQ_mk ⟨(Ext.refl W).alloc _, _, by (try rw [hT]); simp [updN, t6, t8], put_sl rfl (rds_two W _ _ _ 2)⟩
        · intro u W hx hd
          have t9 := get_sl (v := u 9) rfl (hd 9 (mem_of (by kernel_rfl)))
          clear hd
          rw [hT u]
          go_wp2_with (go_at_call 125; refine (join_any [pm, qm] _ _ t9 (by simp)).mono ?_; rintro e W' ⟨rfl, hx'⟩; rw [joinL_or, setV, u64v, u64v, u64v, u64v])
          exact stepQ_mk ⟨hx', _, by (try rw [hT]); simp [updN], put_set rfl⟩
        · intro u W hx hp
          have g0 := get_one (v := u 0) rfl (hp 0 (by omega))
          have g1 := get_one (v := u 1) rfl (hp 1 (by omega))
          have g10 := get_set (v := u 10) rfl (hp 10 (by omega))
          clear hp
          rw [hT u, g0, g1, g10]
          have hL7 := hL6.ext hx
          go_wp2_with (refine wpl_setSet rfl _ _ rfl rfl w2.heap.size gl l.length c3 l i m' sm (orS pm qm) HMI.out rfl rfl hL7 ?_; intro w8 hL8 hg8)
          have hx8 := (hx26.trans hx).grown hg8 (fun k hk => by injection hk with hk; have := hL6.ownB k (by rw [← hk]; rfl); omega)
          go_roundw
          case rel => exact ⟨k + 1, l.set i (setOf m' (orS pm qm), sm), i, by omega, by go_num, rfl, by rw [← HP.out, HAD2.out, HJ.out, List.map_set], by rw [List.map_set, ← HJ.out]; exact HAT, by simpa using hL8, hx8⟩
          case measure => simp [intOf]; omega
      · have HAD2 := Lib.hid (show altAdd (l.map (·.1)) nk = if seenIn (l.map (·.1)) nk = true then l.map (·.1) else l.map (·.1) ++ [nk] by
          rw [HAD.out, if_neg]
          rintro ⟨h1, h2⟩
          rcases HA.out with ⟨_, h3⟩ | ⟨i, h3, _⟩
          · rw [h3] at h2; cases h2
          · exact hj ⟨h1, by omega⟩)
        have HX : Hid ((nk.h.kind ≠ 2 ∧ AtOk (l.map (·.1) ++ [nk]) a ∧ AtOk (l.map (·.1)) a) ∨ (nk.h.kind = 2 ∧ a = -1 ∧ seenIn (l.map (·.1)) nk = false ∧ AtOk (l.map (·.1) ++ [nk]) ((l.map (·.1)).length : Nat))) := Lib.hid (by
          by_cases h2 : nk.h.kind = 2
          · rcases HA.out with ⟨h3, h4⟩ | ⟨i, h3, _⟩
            · exact .inr ⟨h2, h3, seen_two h2 _, AtOk.first h4 h2⟩
            · exact absurd ⟨h2, by omega⟩ hj
          · exact .inl ⟨h2, HA.out.snoc h2, HA.out⟩)
        have hfar := Lib.hid (HOKK.out.far hxw6 (v := .slice A3 l.length c3) (fun i hi => by have := hL6.ownB i hi; have := hx2.size; omega))
        have HOKN := Lib.hid (HOKK.out.ext hxw6)
        have hll2 : l.length ≤ 1000000000 := by omega
        have hx66 : Ext w6 w6 := Ext.refl w6
        clear HAD HA hj HOKK
        rw [List.length_map] at HX
        have HXO := HX.out
        clear HX
        rcases HXO with ⟨h2, hA1, hA2⟩ | ⟨h2, rfl, hns, hA1⟩
        case' inl =>
          have n2 : (nk.h.kind == 2) = false := by rw [beq_eq_false_iff_ne]; exact h2
          have HA1 := Lib.hid hA1
          have HA2 := Lib.hid (fun _ : seenIn (l.map (·.1)) nk = true => hA2)
          clear h2 hA1 hA2
        case' inr =>
          have HA1 := Lib.hid hA1
          have HA2 := Lib.hid (fun h : seenIn (l.map (·.1)) nk = true => (Bool.noConfusion (hns.symm.trans h) : AtOk (l.map (·.1)) ((l.length : Nat) : Int)))
          rw [h2] at hk0
          clear hns hA1 h2
        all_goals
          go_upto_region 12 with fail
          go_loopw [39] (fun j w3 => ∃ m : Nat, m ≤ l.length ∧ j = .int .i64 m ∧ Hid (((l.map (·.1)).take m).any (fun o => !decide (o.h.kind = 2) && sameN o nk) = false) ∧ Ext w6 w3) (fun j _ => l.length - (intOf j).toNat)
          case atStart => exact ⟨0, Nat.zero_le _, rfl, Lib.hid rfl, hx66⟩
          case round =>
            clear hx66
            obtain ⟨m, hm, rfl, HS, hx7⟩ := hrel
            by_cases hml : m < l.length
            · obtain ⟨gl, capl, e1, _, _, _⟩ := hL6.own.form (by simp; omega)
              simp only [Value.slice.injEq] at e1
              obtain ⟨rfl, eL, rfl⟩ := e1
              clear eL
              have hmi : l[m]? = some l[m] := List.getElem?_eq_getElem hml
              have hato : NdAt wr gl (m * 10) l[m].1.h l[m].2 := NdAt.ext (fun j hj => hL6.own.cell m _ (by rw [List.getElem?_map, hmi]; rfl) j hj) hx7
              have hmem : l[m].1 ∈ l.map (·.1) := List.mem_map_of_mem (List.getElem_mem hml)
              have hoko := (hL6.kid _ (List.getElem_mem hml)).ok.ext hx7
              have HSAME := Lib.hid (fun W (hW : Ext wr W) => same_any l[m].1 l[m].2 nk sv W (hoko.ext hW) (HOKN.out.ext (hx7.trans hW)) (smallL_mem HSL.out _ hmem))
              have hml' : m < (l.map (·.1)).length := by rw [List.length_map]; exact hml
              have HST := Lib.hid (show ((l.map (·.1)).take (m + 1)).any (fun o => !decide (o.h.kind = 2) && sameN o nk) = (!decide (l[m].1.h.kind = 2) && sameN l[m].1 nk) by
                rw [take_snoc _ m hml', List.any_append, HS.out]
                simp)
              have HSEEN := Lib.hid (fun h : (!decide (l[m].1.h.kind = 2) && sameN l[m].1 nk) = true => (List.any_eq_true.2 ⟨l[m].1, hmem, h⟩ : seenIn (l.map (·.1)) nk = true))
              have hslo := hoko.sl
              have hs7 := hs6.ext hx7
              have d4 : (m : Int) < (l.length : Int) := by omega
              clear hmem hoko hml' HS hmi
              generalize hsn : sameN l[m].1 nk = sn at *
              clear hsn
              generalize l[m].2 = so at *
              generalize l[m].1 = o at *
              by_cases ko : o.h.kind = 2
              · have HS2 := Lib.hid (HST.out.trans (by rw [decide_eq_true ko]; rfl : _ = false))
                clear HSAME HST HSEEN
                go_wp2_with (first
                  | (refine wpl_loadNd rfl _ rfl gl (m * 10) o.h so rfl hato ?_)
                  | (refine wpl_allocNd rfl rfl ?_; intro s8 w8 hs8 hx8 e8 t8)
                  | (refine wpl_storeNd rfl _ _ rfl rfl s8 o.h _ so _ rfl rfl hslo hs8 ?_; intro w9 hs9 hk9; have hx9 := hx8.keep1 hk9 e8; have y0 : w9.cell? ⟨s8, 0, none⟩ = some (.int .i64 2) := (hs9.cell 0).trans (congrArg (fun x => some (Value.int .i64 x)) ko)))
                go_roundw
                case rel => exact ⟨m + 1, by omega, by go_num, HS2, hx7.trans hx9⟩
                case measure => simp [intOf]; omega
              · have n3 : (o.h.kind != 2) = true := by simpa using ko
                have HST2 := Lib.hid (HST.out.trans (by rw [decide_eq_false ko]; rfl : _ = sn))
                have HSEEN2 := Lib.hid (fun h : sn = true => HSEEN.out (by rw [decide_eq_false ko, h]; rfl))
                clear HST HSEEN ko
                cases sn
                · go_wp2_with (first
                    | (refine wpl_loadNd rfl _ rfl gl (m * 10) o.h so rfl hato ?_)
                    | (refine wpl_allocNd rfl rfl ?_; intro s8 w8 hs8 hx8 e8 t8)
                    | (refine wpl_storeNd rfl _ _ rfl rfl s8 o.h _ so _ rfl rfl hslo hs8 ?_; intro w9 hs9 hk9; have hx9 := hx8.keep1 hk9 e8; have y0 : w9.cell? ⟨s8, 0, none⟩ = some (.int .i64 o.h.kind) := hs9.cell 0)
                    | (refine wpl_loadNdG _ rfl rfl s8 0 o.h so rfl hs9.nd ?_)
                    | (refine wpl_loadNdG _ rfl rfl s 0 nk.h sv rfl (hs7.ext hx9).nd ?_)
                    | (go_at_call 24; refine (HSAME.out _ hx9).mono ?_; rintro e wa ⟨rfl, hxa⟩))
                  go_roundw
                  case rel => exact ⟨m + 1, by omega, by go_num, HST2, (hx7.trans hx9).trans hxa⟩
                  case measure => simp [intOf]; omega
                · have HAD3 := Lib.hid (HAD2.out.trans (if_pos (HSEEN2.out rfl)))
                  have HA3 := Lib.hid (HA2.out (HSEEN2.out rfl))
                  go_wp2_with (first
                    | (refine wpl_loadNd rfl _ rfl gl (m * 10) o.h so rfl hato ?_)
                    | (refine wpl_allocNd rfl rfl ?_; intro s8 w8 hs8 hx8 e8 t8)
                    | (refine wpl_storeNd rfl _ _ rfl rfl s8 o.h _ so _ rfl rfl hslo hs8 ?_; intro w9 hs9 hk9; have hx9 := hx8.keep1 hk9 e8; have y0 : w9.cell? ⟨s8, 0, none⟩ = some (.int .i64 o.h.kind) := hs9.cell 0)
                    | (refine wpl_loadNdG _ rfl rfl s8 0 o.h so rfl hs9.nd ?_)
                    | (refine wpl_loadNdG _ rfl rfl s 0 nk.h sv rfl (hs7.ext hx9).nd ?_)
                    | (go_at_call 24; refine (HSAME.out _ hx9).mono ?_; rintro e wa ⟨rfl, hxa⟩))
                  have hx6a := (hx7.trans hx9).trans hxa
                  go_roundw
                  case rel => exact ⟨k + 1, l, _, by omega, by go_num, rfl, by rw [← HP.out, HAD3.out], HA3, hL6.ext hx6a, hx26.trans hx6a⟩
                  case measure => simp [intOf]; omega
            · have hns : seenIn (l.map (·.1)) nk = false := by
                have := HS.out
                rw [List.take_of_length_le (by rw [List.length_map]; omega)] at this
                exact this
              have HAD3 := Lib.hid (HAD2.out.trans (if_neg (by rw [hns]; decide)))
              have hL7 := hL6.ext hx7
              have hs7 := hs6.ext hx7
              have hfar7 := Lib.hid (hfar.out.off hx7)
              have hB7 : w2.heap.size ≤ wr.heap.size := by have := hx7.size; omega
              have d4 : ¬ (m : Int) < (l.length : Int) := by omega
              clear hns HAD2 HA2 HS HSL HOKN hfar hs6 hL6
              go_wp2_with (first
                | (refine wpl_loadNd rfl _ rfl s 0 nk.h sv rfl hs7.nd ?_)
                | (refine wpl_oneNd rfl _ rfl nk.h sv rfl ?_; intro g8 w8 hb8 hx8 e8 s8)
                | (refine wpl_appIn rfl _ _ rfl w2.heap.size (.slice A3 l.length c3) l nk sv g8 1 rfl rfl (hL7.ext hx8) (by have := hx8.size; omega) (hfar7.out.off hx8) hb8 hll2 ?_; intro v9 w9 hL9 hE9))
              have hx9 := hE9 w2 ((hx26.trans hx7).trans hx8) (Nat.le_refl _)
              go_roundw
              case rel => exact ⟨k + 1, l ++ [(nk, sv)], _, by omega, by go_num, rfl, by rw [← HP.out, HAD3.out, List.map_append]; rfl, by rw [List.map_append]; exact HA1, hL9, hx9⟩
              case measure => simp [intOf]; omega
    · have hkl : ns.take k = ns := List.take_of_length_le (by omega)
      have HL := Lib.hid (hl.trans (by rw [hkl]) : l.map (·.1) = ns.foldl altAdd [])
      have hd1 : ¬ (k : Int) < (ns.length : Int) := by omega
      have HB := Lib.hid (hL.nds (hdV 0))
      rw [HL.out] at HB
      have HS1 := Lib.hid (HALT.out wr _ HB.out)
      clear HN HLEN hL HALT hl hkl HNT HL HA HSM
      go_wp2_with (first
        | (go_at_call 126; refine HS1.out.mono ?_; rintro e w6 ⟨sv6, rfl, hn6, hx6⟩)
        | (refine wpl_storeNd rfl _ _ rfl rfl z res.h _ sv6 _ rfl rfl hn6.ok.sl (hzr.ext hx6) ?_; intro w7 hz7 hk7))
      have := hx.size
      exact ret_nd rfl rfl rfl hz7 ⟨sv6, rfl, (hn6.keep1 hk7 (by omega)).mono (by have := hx2.size; omega), (hxw.trans hx6).keep1 hk7 ez⟩

end Go.Proofs.YtkcgbdoplhgbmaaDoor

namespace Go.Proofs.YtkcgbdoplhgbmaaDoor
open Go Go.RowKit

/-- What a call answers that makes a tree, or hands on one made from block B on. -/
def RetFrom (B : Nat) (w : World) (n : Nd) (r : Ending) (w' : World) : Prop := ∃ sv, r = .returned (nodeV n.h sv) ∧ NdNew B w' n sv ∧ Ext w w'

set_option maxRecDepth 100000 in
set_option maxHeartbeats 8000000 in
theorem nrepeat_any (h : Hd) (sv : Value) (x : Nd) (svx : Value) (w : World) (B : Nat) (hx : NdNew B w x svx) (hB : B ≤ w.heap.size) (hsm : smallN x) :
    Calls Tryd.prog 108 #[nodeV h sv, nodeV x.h svx] w (RetFrom B w (repO h x)) := by
  have HS0 := Lib.hid (fun W => seq_any [] (.slice none 0 0) W ⟨none, 0, rfl, trivial⟩ ⟨by simp, trivial⟩)
  have HRP := Lib.hid (fun W (hW : Ext w W) => rep_any x svx h.min h.max W (hx.ok.ext hW) hsm)
  have HNT := Lib.hid (fun W => nth_any x.h svx W)
  have HX := Lib.hid hx
  have HB := Lib.hid hB
  have HNB := Lib.hid (show nthB x = nthH x.h from rfl)
  have HR := Lib.hid (show repO h x = if h.max = 0 ∨ x.h.kind = 1 then .mk (hdV 1) [] else if nthB x = true ∨ x.h.kind = 3 ∨ x.h.kind = 4 then (if h.min = 0 then .mk (hdV 1) [] else x) else if (h.min = 1 ∧ h.max = 1) ∨ (x.h.kind = 8 ∧ x.h.min = 0 ∧ x.h.max = -1) then x else .mk ⟨8, noS, 0, h.min, h.max, false⟩ [x] from rfl)
  have hslx := hx.ok.sl
  rw [HNB.out] at HR
  clear hx hB hsm HNB
  generalize repO h x = res at *
  go_enter Tryd.func108, Tryd.ntmps108
  go_upto_region 1 with (first
    | (refine wpl_boxNd rfl _ rfl h _ rfl ?_; intro b2 w1 hb2 hx1 e2 s2)
    | (refine wpl_boxNd rfl _ rfl x.h _ rfl ?_; intro b3 w2 hb3 hx2 e3 s3)
    | (refine wpl_allocNd rfl rfl ?_; intro z w3 hz hx3 ez sz))
  have hw3 : Ext w w3 := (hx1.trans hx2).trans hx3
  replace hb2 := hb2.ext (hx2.trans hx3)
  replace hb3 := hb3.ext hx3
  have hwz : w.heap.size ≤ z := by have := hx1.size; have := hx2.size; omega
  have t4 : w3.cell? ⟨b2, 7, none⟩ = some (.int .i64 h.min) := hb2.cell 7
  have t5 : w3.cell? ⟨b2, 8, none⟩ = some (.int .i64 h.max) := hb2.cell 8
  have x0 : w3.cell? ⟨b3, 0, none⟩ = some (.int .i64 x.h.kind) := hb3.cell 0
  have x4 : w3.cell? ⟨b3, 7, none⟩ = some (.int .i64 x.h.min) := hb3.cell 7
  have x5 : w3.cell? ⟨b3, 8, none⟩ = some (.int .i64 x.h.max) := hb3.cell 8
  clear hb2 hx1 hx2 hx3 e2 s2 e3 s3 ez
  have HXH := Lib.hid (show x.h = x.h from rfl)
  generalize hmx : h.max = mx at *
  generalize hmn : h.min = mn at *
  generalize hkx : x.h.kind = kx at *
  generalize hxmn : x.h.min = xmn at *
  generalize hxmx : x.h.max = xmx at *
  generalize hnt : nthH x.h = nt at *
  clear HXH hmx hmn hkx hxmn hxmx hnt
  by_cases c1 : mx = 0 ∨ kx = 1
  · have HE := Lib.hid (HR.out.trans (if_pos c1))
    clear HR HRP HNT HX
    rcases (show mx = 0 ∨ (mx ≠ 0 ∧ kx = 1) by omega) with rfl | ⟨c2, rfl⟩
    case' inr => have n1 : (mx == 0) = false := by rw [beq_eq_false_iff_ne]; exact c2
    all_goals
      clear c1
      go_wp2_with (first
        | (go_at_call 82; refine (HS0.out _).mono ?_; rintro e w7 ⟨sv7, rfl, hn7, hx7⟩)
        | (refine wpl_storeNd rfl _ _ rfl rfl z _ _ sv7 _ rfl rfl hn7.ok.sl (hz.ext hx7) ?_; intro w8 hz8 hk8))
      have := hw3.size
      exact ret_nd rfl rfl rfl hz8 ⟨sv7, by rw [HE.out]; rfl, by rw [HE.out]; exact (hn7.keep1 hk8 (by omega)).mono (by have := HB.out; omega), (hw3.trans hx7).keep1 hk8 hwz⟩
  have HR2 := Lib.hid (HR.out.trans (if_neg c1))
  have n1 : (mx == 0) = false := by rw [beq_eq_false_iff_ne]; omega
  have n2 : (kx == 1) = false := by rw [beq_eq_false_iff_ne]; omega
  clear HR c1
  go_upto_region 3 with fail
  go_cut [15] (fun v wx => v = .bool (nt || decide (kx = 3) || decide (kx = 4)) ∧ Ext w3 wx)
  case first =>
    clear HR2 HRP HS0 HX
    rcases (show nt = true ∨ (nt = false ∧ kx = 3) ∨ (nt = false ∧ kx ≠ 3 ∧ kx = 4) ∨ (nt = false ∧ kx ≠ 3 ∧ kx ≠ 4) by cases nt <;> simp <;> omega) with rfl | ⟨rfl, rfl⟩ | ⟨rfl, _, rfl⟩ | ⟨rfl, q3, q4⟩
    case' inr.inr.inr =>
      have n3 : (kx == 3) = false := by rw [beq_eq_false_iff_ne]; exact q3
      have n4 : (kx == 4) = false := by rw [beq_eq_false_iff_ne]; exact q4
      have QB := Lib.hid (show (false || decide (kx = 3) || decide (kx = 4)) = false by simp [q3, q4])
      clear q3 q4
    all_goals
      go_wp2_with (first
        | (refine wpl_loadNd rfl _ rfl b3 0 x.h svx rfl hb3.nd ?_)
        | (go_at_call 124; refine (HNT.out _).mono ?_; rintro e w6 ⟨rfl, hx6⟩; have y0 := hx6.cell x0))
      go_meet
      case rel => first | exact ⟨by rw [QB.out], hx6⟩ | exact ⟨by simp, hx6⟩
  obtain ⟨rfl, hx6⟩ := hcut
  have hw6 := hw3.trans hx6
  replace t4 := hx6.cell t4
  replace t5 := hx6.cell t5
  replace x0 := hx6.cell x0
  replace x4 := hx6.cell x4
  replace x5 := hx6.cell x5
  replace hb3 := hb3.ext hx6
  replace hz := hz.ext hx6
  have hw6s := hw6.size
  have hz6 := hz.lt
  by_cases c2 : (nt || decide (kx = 3) || decide (kx = 4)) = true
  · have HR3 := Lib.hid (HR2.out.trans (if_pos (by simpa [or_assoc] using c2)))
    rw [c2]
    clear HR2 c2
    by_cases c3 : mn = 0
    · have HE := Lib.hid (HR3.out.trans (if_pos c3))
      subst c3
      clear HR3 HRP HX
      go_wp2_with (first
        | (go_at_call 82; refine (HS0.out _).mono ?_; rintro e w7 ⟨sv7, rfl, hn7, hx7⟩)
        | (refine wpl_storeNd rfl _ _ rfl rfl z _ _ sv7 _ rfl rfl hn7.ok.sl (hz.ext hx7) ?_; intro w8 hz8 hk8))
      exact ret_nd rfl rfl rfl hz8 ⟨sv7, by rw [HE.out]; rfl, by rw [HE.out]; exact (hn7.keep1 hk8 hz6).mono (by have := HB.out; omega), (hw6.trans hx7).keep1 hk8 hwz⟩
    · have HE := Lib.hid (HR3.out.trans (if_neg c3))
      have n3 : (mn == 0) = false := by rw [beq_eq_false_iff_ne]; exact c3
      clear HR3 c3
      go_wp2_with (first
        | (refine wpl_loadNd rfl _ rfl b3 0 x.h svx rfl hb3.nd ?_)
        | (refine wpl_storeNd rfl _ _ rfl rfl z x.h _ svx _ rfl rfl hslx hz ?_; intro w8 hz8 hk8))
      exact ret_nd rfl rfl rfl hz8 ⟨svx, by rw [HE.out], by rw [HE.out]; exact HX.out.ext (hw6.keep1 hk8 hwz), hw6.keep1 hk8 hwz⟩
  have HR3 := Lib.hid (HR2.out.trans (if_neg (by simpa [or_assoc] using c2)))
  have c2f : (nt || decide (kx = 3) || decide (kx = 4)) = false := by simpa using c2
  rw [c2f]
  clear HR2 c2 c2f HS0 HNT
  by_cases c4 : (mn = 1 ∧ mx = 1) ∨ (kx = 8 ∧ xmn = 0 ∧ xmx = -1)
  · have HE := Lib.hid (HR3.out.trans (if_pos c4))
    clear HR3 HRP
    rcases (show (mn = 1 ∧ mx = 1) ∨ (mn ≠ 1 ∧ kx = 8 ∧ xmn = 0 ∧ xmx = -1) ∨ (mn = 1 ∧ mx ≠ 1 ∧ kx = 8 ∧ xmn = 0 ∧ xmx = -1) by omega) with ⟨rfl, rfl⟩ | ⟨q, rfl, rfl, rfl⟩ | ⟨rfl, q, rfl, rfl, rfl⟩
    case' inr.inl => have n3 : (mn == 1) = false := by rw [beq_eq_false_iff_ne]; exact q
    case' inr.inr => have n3 : (mx == 1) = false := by rw [beq_eq_false_iff_ne]; exact q
    all_goals
      clear c4
      go_wp2_with (first
        | (refine wpl_loadNd rfl _ rfl b3 0 x.h svx rfl hb3.nd ?_)
        | (refine wpl_storeNd rfl _ _ rfl rfl z x.h _ svx _ rfl rfl hslx hz ?_; intro w8 hz8 hk8))
      exact ret_nd rfl rfl rfl hz8 ⟨svx, by rw [HE.out], by rw [HE.out]; exact HX.out.ext (hw6.keep1 hk8 hwz), hw6.keep1 hk8 hwz⟩
  · have HE := Lib.hid (HR3.out.trans (if_neg c4))
    have HRW := Lib.hid (HRP.out _ hw6)
    clear HR3 HRP
    have c5 : ¬ (mn = 1 ∧ mx = 1) := fun h => c4 (.inl h)
    have c6 : ¬ (kx = 8 ∧ xmn = 0 ∧ xmx = -1) := fun h => c4 (.inr h)
    clear c4
    have bn : ∀ {a b : Int}, a ≠ b → (a == b) = false := fun h => by rw [beq_eq_false_iff_ne]; exact h
    have hcs : ((mn == 1) = false ∧ (kx == 8) = false) ∨ ((mn == 1) = false ∧ kx = 8 ∧ (xmn == 0) = false) ∨ ((mn == 1) = false ∧ kx = 8 ∧ xmn = 0 ∧ (xmx == -1) = false) ∨
        (mn = 1 ∧ (mx == 1) = false ∧ (kx == 8) = false) ∨ (mn = 1 ∧ (mx == 1) = false ∧ kx = 8 ∧ (xmn == 0) = false) ∨ (mn = 1 ∧ (mx == 1) = false ∧ kx = 8 ∧ xmn = 0 ∧ (xmx == -1) = false) := by
      by_cases h1 : mn = 1
      · have h2 : mx ≠ 1 := fun h => c5 ⟨h1, h⟩
        by_cases h3 : kx = 8
        · by_cases h4 : xmn = 0
          · exact .inr (.inr (.inr (.inr (.inr ⟨h1, bn h2, h3, h4, bn (fun h => c6 ⟨h3, h4, h⟩)⟩))))
          · exact .inr (.inr (.inr (.inr (.inl ⟨h1, bn h2, h3, bn h4⟩))))
        · exact .inr (.inr (.inr (.inl ⟨h1, bn h2, bn h3⟩)))
      · by_cases h3 : kx = 8
        · by_cases h4 : xmn = 0
          · exact .inr (.inr (.inl ⟨bn h1, h3, h4, bn (fun h => c6 ⟨h3, h4, h⟩)⟩))
          · exact .inr (.inl ⟨bn h1, h3, bn h4⟩)
        · exact .inl ⟨bn h1, bn h3⟩
    clear c5 c6 bn
    rcases hcs with ⟨n3, n4⟩ | ⟨n3, rfl, n4⟩ | ⟨n3, rfl, rfl, n4⟩ | ⟨rfl, n3, n4⟩ | ⟨rfl, n3, rfl, n4⟩ | ⟨rfl, n3, rfl, rfl, n4⟩
    all_goals
      go_wp2_with (first
          | (refine wpl_loadNd rfl _ rfl b3 0 x.h svx rfl hb3.nd ?_)
          | (go_at_call 55; refine HRW.out.mono ?_; rintro e w7 ⟨sv7, rfl, hn7, hx7⟩)
          | (refine wpl_storeNd rfl _ _ rfl rfl z _ _ sv7 _ rfl rfl hn7.ok.sl (hz.ext hx7) ?_; intro w8 hz8 hk8))
      exact ret_nd rfl rfl rfl hz8 ⟨sv7, by rw [HE.out], by rw [HE.out]; exact (hn7.keep1 hk8 hz6).mono (by have := HB.out; omega), (hw6.trans hx7).keep1 hk8 hwz⟩

end Go.Proofs.YtkcgbdoplhgbmaaDoor

namespace Go.Proofs.YtkcgbdoplhgbmaaDoor
open Go Go.RowKit

set_option maxRecDepth 100000 in
set_option maxHeartbeats 8000000 in
theorem nsimple_any : ∀ (n : Nd) (sv : Value) (w : World), NdOk w n sv → okN n → freeN n = true → cntN n ≤ 1000000 →
    Calls Tryd.prog 83 #[nodeV n.h sv] w (RetNd w (simpN n)) := by
  refine Nd.ind fun hd subs ih sv w hn hok hfr hcnt => ?_
  obtain ⟨A, c, rfl⟩ := hn.shape
  obtain ⟨f1, f2⟩ := form_at hok.1
  obtain ⟨c1, c2⟩ := cl_at hok.2
  have hfr' : hd.kind ≠ 7 ∧ ∀ n ∈ subs, freeN n = true := by
    rw [freeN, Bool.and_eq_true, freeL_iff] at hfr
    exact ⟨by simpa using hfr.1, hfr.2⟩
  have hcl : cntL subs ≤ 1000000 := by rw [cntN] at hcnt; omega
  have hoks : ∀ n ∈ subs, okN n := fun n hm => ⟨f2 n hm, c2 n hm⟩
  have IH := fun n (hm : n ∈ subs) sv w (hn : NdOk w n sv) => ih n hm sv w hn (hoks n hm) (hfr'.2 n hm) (by have := cntL_mem hm; omega)
  have HFLAT := Lib.hid (fun W (hW : Ext w W) (hk : hd.kind = 5 ∨ hd.kind = 6) => nflat_any hd subs _ W (hn.ext hW) hk hcl hoks IH)
  have hfok : ∀ k, ∀ n ∈ flatL k subs, okN n := fun k => free_flat k (fun n hm => ⟨hoks n hm, hfr'.2 n hm⟩)
  have hfc : ∀ k, cntL (flatL k subs) ≤ 1000000 := fun k => by have := cnt_flat k subs (fun n hm => cnt_simp n (hoks n hm)); omega
  have HSEQ := Lib.hid (fun W v (h : NdOk W (.mk (hdV 0) (flatL 5 subs)) v) => nseq_any _ v W h (hfok 5) (hfc 5))
  have HALT := Lib.hid (fun W v (h : NdOk W (.mk (hdV 0) (flatL 6 subs)) v) => nalt_any _ v W h (hfc 6))
  have HONE := Lib.hid (fun hk : hd.kind = 8 => formed_single f1 (.inr hk))
  have HLEAF := Lib.hid (fun (h5 : hd.kind ≠ 5) (h6 : hd.kind ≠ 6) (h8 : hd.kind ≠ 8) => (by
    have h7 := hfr'.1
    have hk := formed_kind f1
    by_cases hlt : hd.kind < 5
    · exact List.eq_nil_of_length_eq_zero (formed_leaf f1 hlt)
    · omega : subs = []))
  have HCX := Lib.hid (fun x (hm : x ∈ subs) => (by
    refine cnt_small _ ?_
    have h1 := cnt_simp x (hoks x hm)
    have h2 := cntL_mem hm
    omega : smallN (simpN x)))
  have HIH := Lib.hid IH
  have HN := Lib.hid hn
  have HR := Lib.hid (by rw [simpN] : simpN (.mk hd subs) = if hd.kind = 5 then seqO (flatL 5 subs) else if hd.kind = 6 then altO (flatL 6 subs) else if hd.kind = 8 then repO hd (headN (simpL subs)) else .mk hd subs)
  clear ih hn hok hfr hcnt f1 f2 c1 c2 hfr' hcl hoks IH hfok hfc
  generalize simpN (.mk hd subs) = res at *
  simp only [Nd.h, Nd.subs] at *
  go_enter Tryd.func83, Tryd.ntmps83
  go_upto_region 1 with (first
    | (refine wpl_boxNd rfl _ rfl hd _ rfl ?_; intro b w1 hb hx1 eb sb)
    | (refine wpl_allocNd rfl rfl ?_; intro z w2 hz hx2 ez sz))
  have hx12 := hx1.trans hx2
  replace hb := hb.ext hx2
  have c0 : w2.cell? ⟨b, 0, none⟩ = some (.int .i64 hd.kind) := hb.cell 0
  have c5 : w2.cell? ⟨b, 5, none⟩ = some (.slice A subs.length c) := hb.cell 5
  have hwz : w.heap.size ≤ z := by have := hx1.size; omega
  have h12 := hx12.size
  have hzl := hz.lt
  clear hx1 hx2 eb sb ez sz
  by_cases k5 : hd.kind = 5
  · have HE := Lib.hid (HR.out.trans (if_pos k5))
    have HF := Lib.hid (by have := HFLAT.out w2 hx12 (.inl k5); rwa [k5] at this : Calls Tryd.prog 106 #[nodeV hd (.slice A subs.length c)] w2 (RetRow w2 (flatL 5 subs)))
    clear HR HFLAT HALT HONE HLEAF HCX HIH HN
    rw [k5] at c0
    clear k5
    go_wp2_with (first
      | (refine wpl_loadNd rfl _ rfl b 0 hd _ rfl hb.nd ?_)
      | (go_at_call 106; refine HF.out.mono ?_; rintro e w3 ⟨v3, rfl, hn3, hx3⟩)
      | (go_at_call 105; refine (HSEQ.out _ _ hn3.ok).mono ?_; rintro e w4 ⟨sv4, rfl, hn4, hx4⟩)
      | (refine wpl_storeNd rfl _ _ rfl rfl z _ _ sv4 _ rfl rfl hn4.ok.sl (hz.ext (hx3.trans hx4)) ?_; intro w5 hz5 hk5))
    have := hx3.size
    exact ret_nd rfl rfl rfl hz5 ⟨sv4, by rw [HE.out], by rw [HE.out]; exact (hn4.keep1 hk5 (by omega)).mono (by omega), ((hx12.trans hx3).trans hx4).keep1 hk5 hwz⟩
  have n5 : (hd.kind == 5) = false := by rw [beq_eq_false_iff_ne]; exact k5
  have HR2 := Lib.hid (HR.out.trans (if_neg k5))
  clear HR HSEQ
  by_cases k6 : hd.kind = 6
  · have HE := Lib.hid (HR2.out.trans (if_pos k6))
    have HF := Lib.hid (by have := HFLAT.out w2 hx12 (.inr k6); rwa [k6] at this : Calls Tryd.prog 106 #[nodeV hd (.slice A subs.length c)] w2 (RetRow w2 (flatL 6 subs)))
    clear HR2 HFLAT HONE HLEAF HCX HIH HN n5 k5
    rw [k6] at c0
    clear k6
    go_wp2_with (first
      | (refine wpl_loadNd rfl _ rfl b 0 hd _ rfl hb.nd ?_)
      | (go_at_call 106; refine HF.out.mono ?_; rintro e w3 ⟨v3, rfl, hn3, hx3⟩)
      | (go_at_call 107; refine (HALT.out _ _ hn3.ok).mono ?_; rintro e w4 ⟨sv4, rfl, hn4, hx4⟩)
      | (refine wpl_storeNd rfl _ _ rfl rfl z _ _ sv4 _ rfl rfl hn4.ok.sl (hz.ext (hx3.trans hx4)) ?_; intro w5 hz5 hk5))
    have := hx3.size
    exact ret_nd rfl rfl rfl hz5 ⟨sv4, by rw [HE.out], by rw [HE.out]; exact (hn4.keep1 hk5 (by omega)).mono (by omega), ((hx12.trans hx3).trans hx4).keep1 hk5 hwz⟩
  have n6 : (hd.kind == 6) = false := by rw [beq_eq_false_iff_ne]; exact k6
  have HR3 := Lib.hid (HR2.out.trans (if_neg k6))
  clear HR2 HALT HFLAT
  by_cases k8 : hd.kind = 8
  · have hl := HONE.out k8
    match subs, hl, HN, HIH, HR3, HCX, c5, hb with
    | [x], _, HN, HIH, HR3, HCX, c5, hb =>
      have HE := Lib.hid (HR3.out.trans (if_pos k8))
      have he : headN (simpL [x]) = simpN x := by rw [simpL, simpL]; rfl
      rw [he] at HE
      obtain ⟨g0, o0, svx, rfl, hat, hokx⟩ := HN.out.get 0 (by simp)
      simp only [List.getElem_cons_zero, Nat.zero_mul, Nat.add_zero] at hat hokx
      replace hat := hat.ext hx12
      have HX := Lib.hid (fun W (hW : Ext w2 W) => HIH.out x (by simp) svx W (hokx.ext (hx12.trans hW)))
      have HSX := Lib.hid (HCX.out x (by simp))
      have HREP := Lib.hid (fun W B y svy sv (hy : NdNew B W y svy) (hB : B ≤ W.heap.size) (hs : smallN y) => nrepeat_any hd sv y svy W B hy hB hs)
      rw [k8] at c0
      clear k5 k6 n5 n6 k8 hl HR3 HONE HLEAF HCX HIH HN he hokx
      simp only [List.length_cons, List.length_nil] at *
      generalize simpN x = sx at *
      go_upto_region 7 with fail
      refine wp_region_predz 17 6 [fun v _ => v = nodeV hd (.slice (some ⟨g0, o0, none⟩) 1 c), fun v _ => v = .pointer (some ⟨b, 5, none⟩), fun v _ => v = .slice (some ⟨g0, o0, none⟩) 1 c, fun v _ => v = .pointer (some ⟨g0, o0, none⟩), fun v _ => v = nodeV x.h svx, fun v W => ∃ sv', v = nodeV sx.h sv' ∧ NdNew w2.heap.size W sx sv'] (Lasts.nil.cons fun v W W' hx ⟨sv', h1, h2⟩ => ⟨sv', h1, h2.ext hx⟩).is.is.is.is.is (by kernel_rfl) (by kernel_rfl) (by kernel_rfl) (by kernel_rfl) (by kernel_rfl) (by kernel_rfl) (by kernel_rfl) ?_
      intro T hT
      have r6 : List.range 6 = [0, 1, 2, 3, 4, 5] := rfl
      simp only [spliceT, r6, List.map_cons, List.map_nil, List.take_succ_cons, List.take_zero, List.drop_succ_cons, List.drop_zero, List.cons_append, List.nil_append, Nat.reduceAdd] at hT
      simp only [List.take_succ_cons, List.take_zero, List.drop_succ_cons, List.drop_zero, AllS, Nat.reduceAdd]
      refine ⟨⟨?_, ?_, ?_, ?_, ?_, ?_, trivial⟩, ?_⟩
      · intro u W hx hd'
        clear hd'
        rw [hT u]
        refine wpl_loadNd rfl _ rfl b 0 hd _ rfl (hb.ext hx).nd ?_
        exact stepQ_mk ⟨Ext.refl _, _, by rw [hT]; simp [updN, Act.put], rfl⟩
      · intro u W hx hd'
        clear hd'
        rw [hT u]
        go_wp2
        exact stepQ_mk ⟨Ext.refl _, _, by rw [hT]; simp [updN], rfl⟩
      · intro u W hx hd'
        have t1 : u 1 = _ := hd' 1 (mem_of (by kernel_rfl))
        clear hd'
        rw [hT u, t1]
        have s5 := hx.cell c5
        go_wp2
        exact stepQ_mk ⟨Ext.refl _, _, by rw [hT]; simp [updN, t1], rfl⟩
      · intro u W hx hd'
        have t2 : u 2 = _ := hd' 2 (mem_of (by kernel_rfl))
        clear hd'
        rw [hT u, t2]
        go_wp2
        exact stepQ_mk ⟨Ext.refl _, _, by rw [hT]; simp [updN, t2], rfl⟩
      · intro u W hx hd'
        have t3 : u 3 = _ := hd' 3 (mem_of (by kernel_rfl))
        clear hd'
        rw [hT u, t3]
        refine wpl_loadNd rfl _ rfl g0 o0 x.h svx rfl (hat.ext hx) ?_
        exact stepQ_mk ⟨Ext.refl _, _, by rw [hT]; simp [updN, t3, Act.put], rfl⟩
      · intro u W hx hd'
        have t4 : u 4 = _ := hd' 4 (mem_of (by kernel_rfl))
        clear hd'
        rw [hT u, t4]
        have HXW := Lib.hid (HX.out _ hx)
        have hs := hx.size
        go_wp2_with (go_at_call 83; refine HXW.out.mono ?_; rintro e w4 ⟨sv4, rfl, hn4, hx4⟩)
        exact stepQ_mk ⟨hx4, _, by rw [hT]; simp [updN, t4], ⟨sv4, rfl, hn4.mono hs⟩⟩
      · intro u W hx hp
        have t0 : u 0 = _ := hp 0 (by omega)
        obtain ⟨sv4, t5, hn4⟩ : ∃ sv', u 5 = nodeV sx.h sv' ∧ NdNew w2.heap.size W sx sv' := hp 5 (by omega)
        clear hp
        rw [hT u, t0, t5]
        replace hz := hz.ext hx
        have h3 := hx.size
        have HRW := Lib.hid (HREP.out W w2.heap.size _ _ (.slice (some ⟨g0, o0, none⟩) 1 c) hn4 h3 HSX.out)
        clear hT t0 t5
        go_wp2_with (first
          | (go_at_call 108; refine HRW.out.mono ?_; rintro e w5 ⟨sv5, rfl, hn5, hx5⟩)
          | (refine wpl_storeNd rfl _ _ rfl rfl z _ _ sv5 _ rfl rfl hn5.ok.sl (hz.ext hx5) ?_; intro w6 hz6 hk6))
        exact ret_nd rfl rfl rfl hz6 ⟨sv5, by rw [HE.out], by rw [HE.out]; exact (hn5.keep1 hk6 hzl).mono h12, ((hx12.trans hx).trans hx5).keep1 hk6 hwz⟩
  · have n8 : (hd.kind == 8) = false := by rw [beq_eq_false_iff_ne]; exact k8
    have HE := Lib.hid (HR3.out.trans (if_neg k8))
    obtain rfl := HLEAF.out k5 k6 k8
    clear k5 k6 k8 HR3 HONE HLEAF HCX HIH HN
    simp only [List.length_nil] at *
    go_wp2_with (first
      | (refine wpl_loadNd rfl _ rfl b 0 hd _ rfl hb.nd ?_)
      | (refine wpl_storeNd rfl _ _ rfl rfl z hd _ _ _ rfl rfl (isSl_mk _ _ _) hz ?_; intro w5 hz5 hk5))
    exact ret_nd rfl rfl rfl hz5 ⟨_, by rw [HE.out]; rfl, by rw [HE.out]; exact NdNew.nil _ _ _ _ _, hx12.keep1 hk5 hwz⟩

end Go.Proofs.YtkcgbdoplhgbmaaDoor

namespace Go.Proofs.YtkcgbdoplhgbmaaDoor
open Go Go.RowKit

set_option maxRecDepth 100000 in
set_option maxHeartbeats 8000000 in
theorem nform_any : ∀ (n : Nd) (sv : Value) (w : World), NdOk w n sv → okN n → cntN n ≤ 1000000 →
    Calls Tryd.prog 60 #[nodeV n.h sv] w (RetNd w (normN n)) := by
  refine Nd.ind fun hd subs ih sv w hn hok hcnt => ?_
  obtain ⟨A, c, rfl⟩ := hn.shape
  obtain ⟨f1, f2⟩ := form_at hok.1
  obtain ⟨c1, c2⟩ := cl_at hok.2
  have hsm := cnt_small _ hcnt
  have hcl : cntL subs ≤ 1000000 := by rw [cntN] at hcnt; omega
  have hlen : subs.length ≤ 1000000 := by have := cntL_len subs; omega
  have hoks : ∀ n ∈ subs, okN n := fun n hm => ⟨f2 n hm, c2 n hm⟩
  have IH := Lib.hid (fun n (hm : n ∈ subs) sv w (hn : NdOk w n sv) => ih n hm sv w hn (hoks n hm) (by have := cntL_mem hm; omega))
  have HFR := Lib.hid (fun W (hW : Ext w W) => free_any (.mk hd subs) _ W (hn.ext hW) hsm)
  have HSI := Lib.hid (fun W (hW : Ext w W) (hf : freeN (.mk hd subs) = true) => nsimple_any (.mk hd subs) _ W (hn.ext hW) hok hf hcnt)
  have HN := Lib.hid hn
  have HR := Lib.hid (by rw [normN] : normN (.mk hd subs) = if freeN (.mk hd subs) = true then simpN (.mk hd subs) else .mk hd (normL subs))
  clear ih hn hok hcnt f1 f2 c1 c2 hsm hcl hoks
  generalize normN (.mk hd subs) = res at *
  generalize freeN (.mk hd subs) = fr at *
  generalize simpN (.mk hd subs) = sm at *
  simp only [Nd.subs] at *
  show Calls _ _ #[nodeV hd _] _ _
  have HFR' := Lib.hid (fun W (hW : Ext w W) => (HFR.out W hW : Calls Tryd.prog 20 #[nodeV hd (.slice A subs.length c)] W fun r w' => r = .returned (.bool fr) ∧ Ext W w'))
  clear HFR
  go_enter Tryd.func60, Tryd.ntmps60
  go_upto_region 1 with (first
    | (refine wpl_boxNd rfl _ rfl hd _ rfl ?_; intro b w1 hb hx1 eb sb)
    | (refine wpl_allocNd rfl rfl ?_; intro z w2 hz hx2 ez sz))
  have hx12 := hx1.trans hx2
  replace hb := hb.ext hx2
  have hbz : b < z := by omega
  have hwb : w.heap.size ≤ b := eb
  have hwz : w.heap.size ≤ z := by omega
  have h12 := hx12.size
  have hzl := hz.lt
  clear hx1 hx2 eb ez
  cases fr
  · have HE := Lib.hid (HR.out.trans (if_neg (by decide)))
    clear HR HSI
    go_upto_region 3 with (first
      | (refine wpl_loadNd rfl _ rfl b 0 hd _ rfl hb.nd ?_)
      | (go_at_call 20; refine (HFR'.out _ hx12).mono ?_; rintro e w3 ⟨rfl, hx3⟩))
    replace hb := hb.ext hx3
    replace hz := hz.ext hx3
    have hx13 := hx12.trans hx3
    have hs3 := hx3.size
    have c5 : w3.cell? ⟨b, 5, none⟩ = some (.slice A subs.length c) := hb.cell 5
    have hL0 : LstFp w3 w3.heap.size 27 (.slice none 0 0) [] := LstFp.nil _ _ _
    have hx33 : Ext w3 w3 := Ext.refl w3
    clear hx12 hx3 HFR'
    go_wp2
    go_loopw [3, 13] (fun v i wr => ∃ (k : Nat) (l : List Kid), k ≤ subs.length ∧ i = .int .i64 k ∧ l.map (·.1) = normL (subs.take k) ∧ LstFp wr w3.heap.size 27 v l ∧ Ext w3 wr) (fun _ i _ => subs.length - (intOf i).toNat)
    case atStart => exact ⟨0, [], Nat.zero_le _, rfl, by rw [List.take_zero, normL]; rfl, hL0, hx33⟩
    case round =>
      clear hL0 hx33
      obtain ⟨k, l, hk, rfl, hl, hL, hx⟩ := hrel
      have HL := Lib.hid hl
      clear hl
      have hxw := hx13.trans hx
      by_cases hlt : k < subs.length
      · obtain ⟨g0, o0, sv, rfl, hat, hok⟩ := HN.out.get k hlt
        replace hat := hat.ext hxw
        have IHk := Lib.hid (fun w' (hw' : Ext wr w') => IH.out subs[k] (List.getElem_mem hlt) sv w' (NdOk.ext (hxw.trans hw') _ _ hok))
        have HM := Lib.hid (show (l.map (·.1)) ++ [normN subs[k]] = normL (subs.take (k + 1)) by rw [HL.out, take_snoc subs k hlt, normL_map, normL_map, List.map_append]; rfl)
        have hll : l.length = k := by have := congrArg List.length HL.out; rw [normL_map] at this; simp at this; omega
        have hll2 : l.length ≤ 1000000000 := by omega
        have hsh := hok.sl
        clear IH HN HL hll HE hok
        generalize normN subs[k] = ek at *
        generalize subs[k] = nk at *
        have d1 : (k : Int) < (subs.length : Int) := by omega
        go_wp2_with (first
          | (refine wpl_loadNd rfl _ rfl g0 (o0 + k * 10) nk.h sv rfl hat ?_)
          | (refine wpl_allocNd rfl rfl ?_; intro s w4 hs hx4 es ss)
          | (refine wpl_storeNd rfl _ _ rfl rfl s nk.h _ sv _ rfl rfl hsh hs ?_; intro w5 hs5 hk5; have hx5 := hx4.keep1 hk5 es)
          | (refine wpl_loadNd rfl _ rfl s 0 nk.h sv rfl hs5.nd ?_)
          | (go_at_call 60; refine (IHk.out _ hx5).mono ?_; rintro e w6 ⟨sv6, rfl, hn6, hx6⟩)
          | (refine wpl_oneNd rfl _ rfl ek.h sv6 rfl ?_; intro g7 w7 hb7 hx7 e7 s7)
          | (refine wpl_appFp rfl _ _ rfl w3.heap.size u3 l ek sv6 g7 1 wr rfl rfl hL ((hx5.trans hx6).trans hx7) hx.size ((hn6.ext hx7).mono hx5.size) hb7 hll2 ?_; intro v8 w8 hL8 hx78 hg8))
        have hx8 : Ext w3 w8 := ext_grown_lst (hx.trans hx78) hL (Nat.le_refl _) hg8
        obtain ⟨f, hL8⟩ := hL8
        clear hL hx hat hs hx4 es ss hs5 hk5 hx5 hn6 hx6 hb7 hx7 hg8 hx78 e7 s7 hsh hxw
        go_roundw
        case rel => exact ⟨k + 1, l ++ [(ek, sv6, f)], by omega, by go_num, by simpa using HM.out, hL8, hx8⟩
        case measure => simp [intOf]; omega
      · have hkl : subs.take k = subs := List.take_of_length_le (by omega)
        rw [hkl] at HL
        have hb3 := hb.ext hx
        have hz3 := hz.ext hx
        have HN2 := Lib.hid (hL.node hd)
        rw [HL.out, ← HE.out] at HN2
        have hd1 : ¬ (k : Int) < (subs.length : Int) := by omega
        obtain ⟨A', c', rfl, _⟩ := hL.len
        have hres : res.h = hd := by rw [HE.out]; rfl
        have HRH := Lib.hid hres
        clear hkl IH HN HL c5 hL hres
        go_wp2_with (first
          | (refine wpl_storeSubs rfl _ _ rfl rfl b hd _ _ rfl rfl (isSl_mk _ _ _) hb3 ?_; intro w4 hb4 hk4)
          | (refine wpl_loadNd rfl _ rfl b 0 hd _ rfl hb4.nd ?_)
          | (refine wpl_storeNd rfl _ _ rfl rfl z hd _ _ _ rfl rfl (isSl_mk _ _ _) (hz3.keep1 hk4 (by omega)) ?_; intro w5 hz5 hk5))
        exact ret_nd rfl rfl rfl hz5 ⟨.slice A' l.length c', by rw [HRH.out]; rfl, ((HN2.out.keep1 hk4 (by omega)).keep1 hk5 (by omega)).mono (by omega), ((hx13.trans hx).keep1 hk4 hwb).keep1 hk5 hwz⟩
  · have HE := Lib.hid (HR.out.trans (if_pos rfl))
    have HSI2 := Lib.hid (fun W hW => (HSI.out W hW rfl : Calls Tryd.prog 83 #[nodeV hd (.slice A subs.length c)] W (RetNd W sm)))
    clear HR IH HN HSI
    go_wp2_with (first
      | (refine wpl_loadNd rfl _ rfl b 0 hd _ rfl hb.nd ?_)
      | (go_at_call 20; refine (HFR'.out _ hx12).mono ?_; rintro e w3 ⟨rfl, hx3⟩)
      | (refine wpl_loadNd rfl _ rfl b 0 hd _ rfl (hb.ext hx3).nd ?_)
      | (go_at_call 83; refine (HSI2.out _ (hx12.trans hx3)).mono ?_; rintro e w4 ⟨sv4, rfl, hn4, hx4⟩)
      | (refine wpl_storeNd rfl _ _ rfl rfl z _ _ sv4 _ rfl rfl hn4.ok.sl (hz.ext (hx3.trans hx4)) ?_; intro w5 hz5 hk5))
    have := hx3.size
    exact ret_nd rfl rfl rfl hz5 ⟨sv4, by rw [HE.out], by rw [HE.out]; exact (hn4.keep1 hk5 (by omega)).mono (by omega), ((hx12.trans hx3).trans hx4).keep1 hk5 hwz⟩

/-- What Normal answers. -/
theorem few_cnt {n : Nd} {m : Int} (hm : m ≤ 1000000) (hfew : 0 ≤ leftN n m) : cntN n ≤ 1000000 := by
  have := left_cnt n m hfew
  omega

set_option maxRecDepth 100000 in
set_option maxHeartbeats 4000000 in
theorem normal_any (n : Nd) (sv : Value) (w : World) (A : Nat → Addr) (m : Int) (hn : NdOk w n sv) (hc : clN n) (hE : Err3 w A) (hm : m ≤ 1000000) (hfew : 0 ≤ leftN n m) :
    Calls Tryd.prog 16 #[nodeV n.h sv] w (RetNdE w A (normN n) (chkN n)) := by
  have hcnt := few_cnt hm hfew
  have H1 := Lib.hid (fun W (hW : Ext w W) => check_any n sv W A m (hn.ext hW) (hE.ext hW) hm hfew)
  have H2 := Lib.hid (fun W (hW : Ext w W) (hf : chkN n = 0) => nform_any n sv W (hn.ext hW) ⟨(chk_ok hf).1, hc⟩ hcnt)
  have H3 := Lib.hid (fun (hf : chkN n = 0) W svx (hx : NdOk W (normN n) svx) => copy_any (normN n) svx W hx (cnt_small _ (Nat.le_trans (cnt_norm n ⟨(chk_ok hf).1, hc⟩) hcnt)))
  clear hE hn hm hfew hc hcnt
  generalize chkN n = ck at *
  generalize normN n = res at *
  generalize n.h = hd at *
  go_enter Tryd.func16, Tryd.ntmps16
  go_upto_region 1 with (first
    | (refine wpl_boxNd rfl _ rfl hd _ rfl ?_; intro b w1 hb hx1 eb sb)
    | (refine wpl_allocNd rfl rfl ?_; intro z w2 hz hx2 ez sz))
  have h1 := hx1.size
  by_cases hk : ck = 0
  · subst hk
    have H2' := Lib.hid (fun W hW => H2.out W hW rfl)
    have H3' := Lib.hid (H3.out rfl)
    have H1' := Lib.hid (fun W hW => (by have := H1.out W hW; rwa [errR, if_pos rfl] at this : Calls Tryd.prog 23 #[nodeV hd sv] W fun r w' => r = .returned .nilIface ∧ Ext W w'))
    clear H1 H2 H3
    go_wp2_with (first
      | (refine wpl_loadNd rfl _ rfl b 0 hd _ rfl (hb.ext hx2).nd ?_)
      | (go_at_call 23; refine (H1'.out _ (hx1.trans hx2)).mono ?_; rintro e w3 ⟨rfl, hx3⟩)
      | (refine wpl_loadNd rfl _ rfl b 0 hd _ rfl (hb.ext (hx2.trans hx3)).nd ?_)
      | (go_at_call 60; refine (H2'.out _ ((hx1.trans hx2).trans hx3)).mono ?_; rintro e w4 ⟨sv4, rfl, hn4, hx4⟩)
      | (go_at_call 59; refine (H3'.out _ _ hn4.ok).mono ?_; rintro e w4' ⟨sv4', rfl, hn4', hx4'⟩)
      | (refine wpl_storeNd rfl _ _ rfl rfl z res.h _ sv4' _ rfl rfl hn4'.ok.sl (hz.ext ((hx3.trans hx4).trans hx4')) ?_; intro w5 hz5 hk5))
    have h2 := hx2.size
    have h3 := hx3.size
    have h4 := hx4.size
    exact ret_nd2 rfl rfl rfl rfl hz5 ⟨sv4', rfl, ((show NdNew w4.heap.size w4' (resN res 0) sv4' from hn4').keep1 hk5 (by omega)).mono (by omega), ((((hx1.trans hx2).trans hx3).trans hx4).trans hx4').keep1 hk5 (by omega)⟩
  · have H1' := Lib.hid (fun W hW => (by have := H1.out W hW; rwa [errR, if_neg hk] at this : Calls Tryd.prog 23 #[nodeV hd sv] W fun r w' => r = .returned (errV (A (ck - 1))) ∧ Ext W w'))
    have HE := Lib.hid (show errR A ck = errV (A (ck - 1)) from if_neg hk)
    have HR := Lib.hid (show resN res ck = .mk (hdV 0) [] from if_neg hk)
    clear H1 H2 H3
    unfold errV at *
    go_wp2_with (first
      | (refine wpl_loadNd rfl _ rfl b 0 hd _ rfl (hb.ext hx2).nd ?_)
      | (go_at_call 23; refine (H1'.out _ (hx1.trans hx2)).mono ?_; rintro e w3 ⟨rfl, hx3⟩)
      | (refine wpl_storeNd rfl _ _ rfl rfl z (hdV 0) _ (.slice none 0 0) _ rfl (node_lit _ _ _ _ _ _) (isSl_mk _ _ _) (hz.ext hx3) ?_; intro w5 hz5 hk5))
    exact ret_nd2 rfl rfl rfl rfl hz5 ⟨_, by rw [HE.out, HR.out]; rfl, by rw [HR.out]; exact NdNew.nil _ _ _ _ _, ((hx1.trans hx2).trans hx3).keep1 hk5 (by omega)⟩

end Go.Proofs.YtkcgbdoplhgbmaaDoor
