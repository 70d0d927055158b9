/- trawlref15.row as a contract. Condition: the trees lie in memory, clean and in form. -/
import Derived.Test.YtkcgbdoplhgbmaaDoorNwB
namespace Go.Proofs.YtkcgbdoplhgbmaaDoor
open Go Go.RowKit

/-- What a call answers that makes a tree out of memory from block C on. -/
def RetFromB (C : Nat) (w : World) (n : Nd) (r : Ending) (w' : World) : Prop := ∃ sv, r = .returned (nodeV n.h sv) ∧ NdB C w' n sv ∧ Ext w w'
theorem NdsIn.get {W : World} {S : Nat → Prop} : ∀ {l : List Nd} {A : Option Addr} {k : Nat}, NdsIn W S l A k → ∀ j (hj : j < l.length), ∃ g o sv, A = some ⟨g, o, none⟩ ∧ NdAt W g (o + (k + j) * 10) (l[j]).h sv ∧ NdIn W S l[j] sv
  | [], _, _, _, j, hj => absurd hj (Nat.not_lt_zero _)
  | _ :: _, _, _, ⟨⟨g, o, sv, _, h1, h2, h3⟩, _⟩, 0, _ => ⟨g, o, sv, h1, h2, h3⟩
  | _ :: r, A, k, ⟨_, h2⟩, j + 1, hj => by
    obtain ⟨g, o, sv, h3, h4, h5⟩ := NdsIn.get h2 j (by simpa using hj)
    refine ⟨g, o, sv, h3, ?_, h5⟩
    rw [show k + (j + 1) = k + 1 + j by omega]
    exact h4
theorem NdB.get {W : World} {C : Nat} {h : Hd} {subs : List Nd} {A : Option Addr} {n c : Nat} (hn : NdB C W (.mk h subs) (.slice A n c)) (k : Nat) (hk : k < subs.length) :
    ∃ g o sv, A = some ⟨g, o, none⟩ ∧ NdAt W g (o + k * 10) (subs[k]).h sv ∧ NdB C W subs[k] sv := by
  obtain ⟨A', c', e, hs⟩ := hn
  injection e with e1 e2 e3
  subst e1
  obtain ⟨g, o, sv, h1, h2, h3⟩ := hs.get k hk
  rw [Nat.zero_add] at h2
  exact ⟨g, o, sv, h1, h2, h3⟩

def prevK (l : List Nd) (k : Nat) : Int := match k with | 0 => 0 | j + 1 => match l[j]? with | some n => n.h.kind | none => 0
def lastOr (pk : Int) (a : List Nd) : Int := match a.getLast? with | some n => n.h.kind | none => pk
theorem lastOr_cons (pk : Int) (x : Nd) (a : List Nd) : lastOr pk (x :: a) = lastOr x.h.kind a := by
  unfold lastOr
  cases a with
  | nil => rfl
  | cons y b => rw [List.getLast?_cons_cons, List.getLast?_cons]
theorem lessR_snoc : ∀ (a : List Nd) (pk : Int) (s : Nd), lessR pk (a ++ [s]) = lessR pk a ++ (if markK s.h.kind = true ∧ lastOr pk a = s.h.kind then [] else [s])
  | [], pk, s => by
    rw [List.nil_append, show lessR pk [] = [] by rw [lessR], List.nil_append, lessR, show lessR s.h.kind [] = [] by rw [lessR], List.append_nil]
    rfl
  | x :: a, pk, s => by rw [List.cons_append, lessR, lessR, lessR_snoc a x.h.kind s, List.append_assoc, lastOr_cons]
theorem less_take (l : List Nd) (k : Nat) (hk : k < l.length) : lessR 0 (l.take (k + 1)) = lessR 0 (l.take k) ++ (if markK l[k].h.kind = true ∧ prevK l k = l[k].h.kind then [] else [l[k]]) := by
  rw [take_snoc l k hk, lessR_snoc]
  have : lastOr 0 (l.take k) = prevK l k := by
    cases k with
    | zero => rfl
    | succ j =>
      have : (l.take (j + 1)).getLast? = l[j]? := by rw [List.getLast?_take]; simp; rw [List.getElem?_eq_getElem (by omega)]; rfl
      unfold lastOr prevK
      rw [this]
  rw [this]
theorem lessR_len : ∀ (l : List Nd) (pk : Int), (lessR pk l).length ≤ l.length
  | [], _ => by simp [lessR]
  | s :: r, pk => by
    have := lessR_len r s.h.kind
    rw [lessR, List.length_append, List.length_cons]
    split <;> simp <;> omega

set_option maxRecDepth 100000 in
set_option maxHeartbeats 8000000 in
theorem rrow_any (ns : List Nd) (lv : Value) (w : World) (C : Nat) (hn : NdB C w (.mk (hdV 0) ns) lv) (hC : C ≤ w.heap.size) (hok : ∀ n ∈ ns, okN n) (hcnt : cntL ns ≤ 1000000) :
    Calls Tryd.prog 111 #[lv] w (RetFromB C w (seqO ns)) := by
  obtain ⟨A, c, rfl⟩ := hn.ok.shape
  have HN := Lib.hid hn
  have HC := Lib.hid hC
  have HIS := Lib.hid (fun W h sv => ris_any h sv W)
  have HNO := Lib.hid (fun W => rnothing_any W)
  have hsl : ns.length ≤ 1000000 := by have := cntL_len ns; omega
  have HR := Lib.hid ((seq_row hok).trans (show rowR ns = if ns.any nthB = true then .mk (hdV 2) [] else seqN (lessR 0 (ns.filter fun s => decide (s.h.kind ≠ 1))) from rfl))
  have HOK := Lib.hid hok
  clear hn hok hcnt hC
  generalize seqO ns = res at *
  simp only [Nd.subs] at *
  go_enter Tryd.func111, Tryd.ntmps111
  go_upto_region 1 with (refine wpl_allocNd rfl rfl ?_; intro z w2 hz hx2 ez sz)
  have hx22 : Ext w2 w2 := Ext.refl w2
  have hL0 : LstB w2 w2.heap.size C (.slice none 0 0) [] := LstB.nil _ _ _
  have h2s := hx2.size
  go_wp2
  go_loopw [3, 4] (fun v i wr => ∃ (k : Nat) (l : List (Nd × Value)), k ≤ ns.length ∧ i = .int .i64 k ∧ l.map (·.1) = (ns.take k).filter (fun s => decide (s.h.kind ≠ 1)) ∧ Hid ((ns.take k).any nthB = false) ∧ Hid (∀ x ∈ l, NdB C w x.1 x.2) ∧ LstB wr w2.heap.size C v l ∧ Ext w2 wr) (fun _ i _ => ns.length - (intOf i).toNat)
  case atStart => exact ⟨0, [], Nat.zero_le _, rfl, rfl, Lib.hid rfl, Lib.hid (fun _ h => by cases h), hL0, hx22⟩
  case round =>
    clear hL0 hx22
    obtain ⟨k, l, hk, rfl, hl, HF, HOLD, hL, hx⟩ := hrel
    have hxw := hx2.trans hx
    have hzr := hz.ext hx
    have hll : l.length ≤ 1000000 := by
      have := congrArg List.length hl
      rw [List.length_map] at this
      have h2 := List.length_filter_le (fun s : Nd => decide (s.h.kind ≠ 1)) (ns.take k)
      rw [List.length_take] at h2
      omega
    obtain ⟨A3, c3, rfl, hc3⟩ := hL.len
    by_cases hlt : k < ns.length
    · obtain ⟨g0, o0, sv, rfl, hat, hok⟩ := HN.out.get k hlt
      replace hat := hat.ext hxw
      have hk0 : wr.cell? ⟨g0, o0 + k * 10, none⟩ = some (.int .i64 ns[k].h.kind) := hat 0 (by omega)
      have HP := Lib.hid (show (ns.take (k + 1)).filter (fun s => decide (s.h.kind ≠ 1)) = l.map (·.1) ++ (if ns[k].h.kind = 1 then [] else [ns[k]]) by
        rw [take_snoc ns k hlt, List.filter_append, hl]
        by_cases h1 : ns[k].h.kind = 1 <;> simp [h1])
      have HF1 := Lib.hid (fun h : nthB ns[k] = true => (List.any_eq_true.2 ⟨ns[k], List.getElem_mem hlt, h⟩ : ns.any nthB = true))
      have HF2 := Lib.hid (fun h : nthB ns[k] = false => (by rw [take_snoc ns k hlt, List.any_append, HF.out]; simp [h] : (ns.take (k + 1)).any nthB = false))
      have hfar := Lib.hid (hok.far hxw (v := .slice A3 l.length c3) (fun i hi => by have := hL.ownB i hi; omega))
      have hll2 : l.length ≤ 1000000000 := by omega
      have HOKW := Lib.hid hok
      clear HN HF hl hok
      generalize ns[k] = nk at *
      have d1 : (k : Int) < (ns.length : Int) := by omega
      by_cases hnt : nthB nk = true
      · have HE := Lib.hid (HR.out.trans (if_pos (HF1.out hnt)))
        have hnh : nthH nk.h = true := hnt
        have HI1 := Lib.hid (by have := HIS.out wr nk.h sv; rwa [hnh] at this : Calls Tryd.prog 127 #[nodeV nk.h sv] wr fun r w' => r = .returned (.bool true) ∧ Ext wr w')
        clear HIS hnh hnt HF1 HF2 HP HR hL hfar
        go_wp2_with (first
          | (refine wpl_loadNd rfl _ rfl g0 (o0 + k * 10) nk.h sv rfl hat ?_)
          | (go_at_call 127; refine HI1.out.mono ?_; rintro e w6 ⟨rfl, hx6⟩)
          | (go_at_call 128; refine (HNO.out _).mono ?_; rintro e w7 ⟨sv7, rfl, hn7, hx7⟩)
          | (refine wpl_storeNd rfl _ _ rfl rfl z _ _ sv7 _ rfl rfl hn7.ok.sl (hzr.ext (hx6.trans hx7)) ?_; intro w8 hz8 hk8))
        have h6 := hx6.size
        have hxs := hx.size
        exact ret_nd rfl rfl rfl hz8 ⟨sv7, by rw [HE.out], by rw [HE.out]; exact (hn7.keep1 hk8 (by omega)).mono (by have := HC.out; omega), ((hxw.trans hx6).trans hx7).keep1 hk8 ez⟩
      have hnf : nthB nk = false := by simpa using hnt
      have hnh : nthH nk.h = false := hnf
      have HI1 := Lib.hid (by have := HIS.out wr nk.h sv; rwa [hnh] at this : Calls Tryd.prog 127 #[nodeV nk.h sv] wr fun r w' => r = .returned (.bool false) ∧ Ext wr w')
      have HFN := Lib.hid (HF2.out hnf)
      clear HIS hnh hnt HF1 HF2 hnf HR
      by_cases k1 : nk.h.kind = 1
      · have HP2 := Lib.hid (HP.out.trans (by rw [if_pos k1, List.append_nil]))
        rw [k1] at hk0
        clear HP k1 hfar
        go_wp2_with (first
          | (refine wpl_loadNd rfl _ rfl g0 (o0 + k * 10) nk.h sv rfl hat ?_)
          | (go_at_call 127; refine HI1.out.mono ?_; rintro e w6 ⟨rfl, hx6⟩))
        go_roundw
        case rel => exact ⟨k + 1, l, by omega, by go_num, HP2.out.symm, HFN, HOLD, hL.ext hx6, hx.trans hx6⟩
        case measure => simp [intOf]; omega
      · have HP2 := Lib.hid (HP.out.trans (by rw [if_neg k1]))
        have n1 : (nk.h.kind != 1) = true := by simpa using k1
        clear HP k1
        go_wp2_with (first
          | (refine wpl_loadNd rfl _ rfl g0 (o0 + k * 10) nk.h sv rfl hat ?_)
          | (go_at_call 127; refine HI1.out.mono ?_; rintro e w6 ⟨rfl, hx6⟩)
          | (refine wpl_loadNd rfl _ rfl g0 (o0 + k * 10) nk.h sv rfl (hat.ext hx6) ?_)
          | (refine wpl_oneNd rfl _ rfl nk.h sv rfl ?_; intro g8 w8 hb8 hx8 e8 s8)
          | (refine wpl_appB rfl _ _ rfl w2.heap.size C (.slice A3 l.length c3) l nk sv g8 1 rfl rfl (hL.ext (hx6.trans hx8)) (by have := hx.size; have := hx6.size; have := hx8.size; omega) (ndIn_ext hfar.out (hx6.trans hx8)) hb8 hll2 ?_; intro v9 w9 hL9 hg9))
        have hx9 := ext_grown_B (hx.trans (hx6.trans hx8)) (hL.ext (hx6.trans hx8)) (Nat.le_refl _) hg9
        go_roundw
        case rel => exact ⟨k + 1, l ++ [(nk, sv)], by omega, by go_num, by rw [HP2.out, List.map_append]; rfl, HFN, Lib.hid (fun x hm => by
            rcases List.mem_append.1 hm with hm | hm
            · exact HOLD.out x hm
            · rw [List.mem_singleton.1 hm]; exact HOKW.out), hL9, hx9⟩
        case measure => simp [intOf]; omega
    · have hkl : ns.take k = ns := List.take_of_length_le (by omega)
      rw [hkl] at hl
      have HE := Lib.hid (show res = seqN (lessR 0 (l.map (·.1))) by
        have := HF.out
        rw [hkl] at this
        rw [HR.out, if_neg (by rw [this]; decide), hl])
      have hd1 : ¬ (k : Int) < (ns.length : Int) := by omega
      have HLL := Lib.hid hL
      have hrs : w2.heap.size ≤ wr.heap.size := hx.size
      have hzr' := hzr.lt
      clear HN HF hl HIS HNO HR HOK hkl hk hlt hL
      obtain ⟨wo, hwo⟩ : ∃ wo, wo = wr := ⟨_, rfl⟩
      subst hwo
      have hL0 : LstB wo wo.heap.size C (.slice none 0 0) [] := LstB.nil _ _ _
      have hxr : Ext wo wo := Ext.refl wo
      go_wp2
      go_loopw [6, 7] (fun v i wt => ∃ (k : Nat) (m : List (Nd × Value)), k ≤ l.length ∧ i = .int .i64 k ∧ m.map (·.1) = lessR 0 ((l.map (·.1)).take k) ∧ Hid (∀ x ∈ m, NdB C w x.1 x.2) ∧ LstB wt wo.heap.size C v m ∧ Ext wo wt) (fun _ i _ => l.length - (intOf i).toNat)
      case atStart => exact ⟨0, [], Nat.zero_le _, rfl, rfl, Lib.hid (fun _ h => by cases h), hL0, hxr⟩
      case round =>
        clear hL0 hxr
        obtain ⟨k, m, hk, rfl, hm, HOLM, hM, hx'⟩ := hrel
        have hlm : (l.map (·.1)).length = l.length := List.length_map ..
        have hml : m.length ≤ 1000000 := by
          have := congrArg List.length hm
          rw [List.length_map] at this
          have h2 := lessR_len ((l.map (·.1)).take k) 0
          rw [List.length_take] at h2
          omega
        obtain ⟨A4, c4, rfl, hc4⟩ := hM.len
        by_cases hlt : k < l.length
        · obtain ⟨gl, capl, e1, _, _, _⟩ := HLL.out.own.form (by simp; omega)
          simp only [Value.slice.injEq] at e1
          obtain ⟨rfl, eL, rfl⟩ := e1
          clear eL
          have hmi : l[k]? = some l[k] := List.getElem?_eq_getElem hlt
          have hato : NdAt wr gl (k * 10) l[k].1.h l[k].2 := NdAt.ext (fun j hj => HLL.out.own.cell k _ (by rw [List.getElem?_map, hmi]; rfl) j hj) hx'
          have hk0 : wr.cell? ⟨gl, k * 10, none⟩ = some (.int .i64 l[k].1.h.kind) := hato 0 (by omega)
          have HLT := Lib.hid (show lessR 0 ((l.map (·.1)).take (k + 1)) = m.map (·.1) ++ (if markK l[k].1.h.kind = true ∧ prevK (l.map (·.1)) k = l[k].1.h.kind then [] else [l[k].1]) by
            have := less_take (l.map (·.1)) k (by rw [hlm]; exact hlt)
            rw [this, hm]
            simp)
          have HPV : k = 0 ∨ (0 < k ∧ wr.cell? ⟨gl, (k - 1) * 10, none⟩ = some (.int .i64 (prevK (l.map (·.1)) k))) := by
            cases k with
            | zero => exact .inl rfl
            | succ j =>
              have hj : j < l.length := by omega
              have hj2 : l[j]? = some l[j] := List.getElem?_eq_getElem hj
              refine .inr ⟨by omega, ?_⟩
              have := HLL.out.own.cell j _ (by rw [List.getElem?_map, hj2]; rfl) 0 (by omega)
              rw [Nat.add_zero] at this
              have h2 : prevK (l.map (·.1)) (j + 1) = l[j].1.h.kind := by show (match (l.map (·.1))[j]? with | some n => n.h.kind | none => 0) = _; rw [List.getElem?_map, hj2]; rfl
              rw [h2]
              exact hx'.cell (this.trans rfl)
          have HP0 := Lib.hid (fun h : k = 0 => (by rw [h]; rfl : prevK (l.map (·.1)) k = 0))
          have hkid := Lib.hid (HLL.out.kid _ (List.getElem_mem hlt))
          have hB0 := hx'.size
          have hkid' : NdIn wr (fun b => C ≤ b ∧ Off wr (.slice A4 m.length c4) b) l[k].1 l[k].2 := NdIn.keep (fun b hb => ⟨sameAt_of_block (Below.block hx' b hb.2.1), hb.1, Nat.lt_of_lt_of_le hb.2.1 hB0, fun e => by have := hM.ownB b e; have := hb.2.1; omega⟩) hkid.out
          have hslo := hkid'.ok.sl
          have HMK := Lib.hid (show markK l[k].1.h.kind = (decide (l[k].1.h.kind = 3) || decide (l[k].1.h.kind = 4)) from rfl)
          clear hm hmi hkid HLL HE hlm
          generalize prevK (l.map (·.1)) k = pk at *
          generalize markK l[k].1.h.kind = mk at *
          have HOKW := Lib.hid (HOLD.out _ (List.getElem_mem hlt))
          generalize l[k].2 = so at *
          generalize l[k].1 = o at *
          have d1 : (k : Int) < (l.length : Int) := by omega
          have hml2 : m.length ≤ 1000000000 := by omega
          generalize hok : o.h.kind = kind at *
          have HOKK := Lib.hid hok
          clear hok
          go_upto_region 15 with fail
          go_cut [7, 9] (fun v7 v wx => v7 = .int .i64 k ∧ v = .bool (mk && decide (pk = kind)) ∧ wr = wx)
          case first =>
            clear HLT hkid' hM hato
            have HB := Lib.hid (show decide (pk = kind) = (pk == kind) from (Bool.beq_eq_decide_eq _ _).symm)
            rcases HPV with h0 | ⟨h0, hc⟩
            · have HZ := Lib.hid (HP0.out h0)
              have HK0 := Lib.hid h0
              have q0 : ¬ (0 : Int) < (k : Int) := by omega
              have QE := Lib.hid (show (mk && decide (pk = kind)) = false by
                rw [HMK.out, HZ.out]
                by_cases h : (0 : Int) = kind
                · subst h; rfl
                · simp [h])
              clear HP0 HMK h0
              go_wp2
              go_meet
              case rel => exact ⟨by first | rfl | rw [HK0.out]; rfl, by rw [QE.out], rfl⟩
            · have q0 : (0 : Int) < (k : Int) := by omega
              have q1 : IntKind.i64.wrap ((k : Int) - 1) = ((k - 1 : Nat) : Int) := by rw [IntKind.wrap_i64]; omega
              have q2 : ((k - 1 : Nat) : Int) < (l.length : Int) := by omega
              clear HP0
              generalize k - 1 = k' at *
              by_cases hp : pk = kind
              · subst hp
                rcases (show pk = 3 ∨ (pk ≠ 3 ∧ pk = 4) ∨ (pk ≠ 3 ∧ pk ≠ 4) by omega) with rfl | ⟨_, rfl⟩ | ⟨h3, h4⟩
                case' inr.inr =>
                  have n3 : (pk == 3) = false := by rw [beq_eq_false_iff_ne]; exact h3
                  have n4 : (pk == 4) = false := by rw [beq_eq_false_iff_ne]; exact h4
                  have HM2 := Lib.hid (show mk = false by rw [HMK.out]; simp [h3, h4])
                  clear h3 h4
                all_goals
                  go_wp2
                  go_meet
                  case rel => exact ⟨rfl, by first | (rw [HM2.out]; rfl) | (rw [HMK.out]; simp), rfl⟩
              · have n5 : (pk == kind) = false := by rw [beq_eq_false_iff_ne]; exact hp
                have HQ := Lib.hid (show (mk && decide (pk = kind)) = false by simp [hp])
                clear hp HMK
                go_wp2
                go_meet
                case rel => exact ⟨rfl, by rw [HQ.out], rfl⟩
          obtain ⟨rfl, rfl, rfl⟩ := hcut
          by_cases hb : (mk && decide (pk = kind)) = true
          · have HL2 := Lib.hid (HLT.out.trans (by rw [if_pos (by simpa using hb), List.append_nil]))
            rw [hb]
            clear HLT hb HMK HPV HP0 hkid'
            go_wp2
            go_roundw
            case rel => exact ⟨k + 1, m, by omega, by go_num, HL2.out.symm, HOLM, hM, hx'⟩
            case measure => simp [intOf]; omega
          · have hbf : (mk && decide (pk = kind)) = false := by simpa using hb
            have HL2 := Lib.hid (HLT.out.trans (by rw [if_neg (by simpa using hb)]))
            rw [hbf]
            clear HLT hb hbf HMK HPV HP0
            go_wp2_with (first
              | (refine wpl_loadNd rfl _ rfl gl (k * 10) o.h so rfl hato ?_)
              | (refine wpl_oneNd rfl _ rfl o.h so rfl ?_; intro g8 w8 hb8 hx8 e8 s8)
              | (refine wpl_appB rfl _ _ rfl wo.heap.size C (.slice A4 m.length c4) m o so g8 1 rfl rfl (hM.ext hx8) (by have := hx8.size; omega) (ndIn_ext hkid' hx8) hb8 hml2 ?_; intro v9 w9 hL9 hg9))
            have hx9 := ext_grown_B (hx'.trans hx8) (hM.ext hx8) (Nat.le_refl _) hg9
            go_roundw
            case rel => exact ⟨k + 1, m ++ [(o, so)], by omega, by go_num, by rw [HL2.out, List.map_append]; rfl, Lib.hid (fun x hm => by
              rcases List.mem_append.1 hm with hm | hm
              · exact HOLM.out x hm
              · rw [List.mem_singleton.1 hm]; exact HOKW.out), hL9, hx9⟩
            case measure => simp [intOf]; omega
        · have hkl : (l.map (·.1)).take k = l.map (·.1) := List.take_of_length_le (by omega)
          rw [hkl] at hm
          have HE2 := Lib.hid (show res = seqN (m.map (·.1)) by rw [HE.out, hm])
          have hwB : C ≤ wo.heap.size := by have := HC.out; omega
          have hd2 : ¬ (k : Int) < (l.length : Int) := by omega
          have hzt := hzr.ext hx'
          have hxx := hxw.trans hx'
          have hts := hx'.size
          have hzl := hz.lt
          clear HE hm hkl hk hlt hll hlm HLL
          match m, HE2, HOLM, hM, hml with
          | [], HE2, HOLM, hM, hml =>
            simp only [List.length_nil] at *
            clear HOLM hM
            go_wp2_with (refine wpl_storeNd rfl _ _ rfl rfl z (hdV 1) _ (.slice none 0 0) _ rfl (node_lit _ _ _ _ _ _) (isSl_mk _ _ _) hzt ?_; intro w5 hz5 hk5)
            exact ret_nd rfl rfl rfl hz5 ⟨_, by rw [HE2.out]; rfl, by rw [HE2.out]; exact NdB.nil _ _ _ _ _, hxx.keep1 hk5 ez⟩
          | [x], HE2, HOLM, hM, hml =>
            obtain ⟨gm, capm, e1, _, _, _⟩ := hM.own.form (by simp)
            simp only [Value.slice.injEq] at e1
            obtain ⟨rfl, eL, rfl⟩ := e1
            clear eL
            have hatx : NdAt wr gm 0 x.1.h x.2 := fun j hj => by
              have := hM.own.cell 0 (nodeC x.1.h x.2) rfl j hj
              rwa [Nat.zero_mul] at this
            have HKX := Lib.hid (HOLM.out x (by simp))
            have hslx := HKX.out.ok.sl
            clear HOLM
            simp only [List.length_cons, List.length_nil] at *
            clear hM
            go_wp2_with (first
              | (refine wpl_loadNd rfl _ rfl gm 0 x.1.h x.2 rfl hatx ?_)
              | (refine wpl_storeNd rfl _ _ rfl rfl z x.1.h _ x.2 _ rfl rfl hslx hzt ?_; intro w5 hz5 hk5))
            exact ret_nd rfl rfl rfl hz5 ⟨x.2, by rw [HE2.out]; rfl, by rw [HE2.out]; exact HKX.out.ext (hxx.keep1 hk5 ez), hxx.keep1 hk5 ez⟩
          | x :: y :: r, HE2, HOLM, hM, hml =>
            have d0 : 2 ≤ (x :: y :: r).length := by simp
            have HS : seqN ((x :: y :: r).map (·.1)) = .mk (hdV 5) ((x :: y :: r).map (·.1)) := rfl
            rw [HS] at HE2
            have HM := Lib.hid hM
            clear HS hM
            generalize (x :: y :: r) = ml at *
            have HL := Lib.hid (show ml.length = (ml.map (·.1)).length from (List.length_map ..).symm)
            generalize hL : ml.length = L at *
            have HLL2 := Lib.hid hL
            clear hL
            have d1 : ((L : Int) == 0) = false := by rw [beq_eq_false_iff_ne]; omega
            have d2 : ((L : Int) == 1) = false := by rw [beq_eq_false_iff_ne]; omega
            have d3 : ¬ L = 0 := by omega
            have d4 : ¬ L = 1 := by omega
            go_wp2_with (refine wpl_storeNd rfl _ _ rfl rfl z (hdV 5) _ (.slice A4 L c4) _ rfl (node_lit _ _ _ _ _ _) (isSl_mk _ _ _) hzt ?_; intro w5 hz5 hk5)
            have hxf := hxx.keep1 hk5 ez
            have hM5 : LstB w5 wo.heap.size C (.slice A4 L c4) ml := ⟨HM.out.own.keeps hk5 (fun i hi e => by have := HM.out.ownB i hi; omega), fun x hx => (HOLM.out x hx).far hxf (fun i hi => by have := HM.out.ownB i hi; omega)⟩
            exact ret_nd rfl rfl rfl hz5 ⟨_, by rw [HE2.out]; rfl, by rw [HE2.out]; exact hM5.node hwB (hdV 5), hxf⟩

end Go.Proofs.YtkcgbdoplhgbmaaDoor
