/- Lists of spans that the program made; rank.unset as a contract: the spans of all groups of a tree are laid to nowhere. Condition: the tree lies in memory, it is in form. -/
import Derived.Test.YthddlhpndaffjaaDoorRkC
import Derived.Test.YthddlhpndaffjaaDoorRowK
namespace Go.Proofs.YthddlhpndaffjaaDoor
open Go Go.RowKit

def spC (x : Int × Int) : List Value := [.int .i64 x.1, .int .i64 x.2]
theorem spC_len (x : Int × Int) : (spC x).length = 2 := rfl
def spR (l : List (Int × Int)) : List (List Value) := l.map spC
@[simp] theorem spR_len (l : List (Int × Int)) : (spR l).length = l.length := by simp [spR]
theorem spR_set (l : List (Int × Int)) (j : Nat) (x : Int × Int) : (spR l).set j (spC x) = spR (l.set j x) := by simp [spR, List.map_set]
theorem spR_get (l : List (Int × Int)) (j : Nat) (h : j < l.length) : (spR l)[j]? = some (spC l[j]) := by simp [spR, h]
abbrev OwnSp (w : World) (B : Nat) (v : Value) (l : List (Int × Int)) : Prop := OwnR w B 74 2 v (spR l)
theorem info_sp : (Tryd.prog.info? 74).map (·.size) = some 2 := by kernel_rfl

section
variable {ops : Array Oper} {rest : List Oper} {o : Oper} {a : Act} {w : World} {Q : Exit → Act → World → Prop}
/-- The store of a span into a list of the call's own. -/
theorem wpl_setSp (hgd : o.guard = none) (x y : Operand) (ho : o.op = .store 74 x y) (hd : o.dst = none) (B g n c : Nat) (l : List (Int × Int)) (j : Nat) (s : Int × Int) (hx : a.eval x = .pointer (some ⟨g, j * 2, none⟩)) (hy : a.eval y = .agg #[.int .i64 s.1, .int .i64 s.2])
    (hO : OwnSp w B (.slice (some ⟨g, 0, none⟩) n c) l) (hj : j < l.length)
    (hK : ∀ w1, OwnSp w1 B (.slice (some ⟨g, 0, none⟩) n c) (l.set j s) → Keeps (· = g) w w1 → wpList Tryd.prog ops Q rest a w1) : wpList Tryd.prog ops Q (o :: rest) a w := by
  have hpa : a.put o.dst undef = a := by rw [hd]; rfl
  rw [← hpa] at hK
  obtain ⟨h1, h2⟩ := OwnR.store hO (by decide) j (by simpa using hj) (spC_len s)
  rw [spR_set] at h1
  have hk : Keeps (· = g) w (w.setCells g (j * 2) (spC s)) := (Keeps.of_grown h2).mono fun i _ e => by injection e with e; exact e.symm
  refine wpList_store_mid hgd 74 x y ho g (j * 2) #[.int .i64 s.1, .int .i64 s.2] hx hy (fun i hi => ⟨?_, OwnR.frozen hO _⟩) info_sp (by simp [Value.oneCell']) (hK _ h1 hk)
  rw [OwnR.cell hO j _ (spR_get l j hj) i hi, List.getElem?_eq_getElem (show i < (spC l[j]).length from hi)]
  rfl
end

mutual
def unsetN : Nd → List (Int × Int) → List (Int × Int)
  | .mk h subs, l => unsetL subs (if h.kind = 7 ∧ h.num < l.length then l.set h.num.toNat (-1, -1) else l)
def unsetL : List Nd → List (Int × Int) → List (Int × Int)
  | [], l => l
  | n :: r, l => unsetL r (unsetN n l)
end
theorem unsetL_snoc : ∀ (a : List Nd) (n : Nd) (l : List (Int × Int)), unsetL (a ++ [n]) l = unsetN n (unsetL a l)
  | [], n, l => by simp [unsetL]
  | x :: a, n, l => by
    show unsetL (x :: (a ++ [n])) l = _
    rw [unsetL, unsetL, unsetL_snoc a n]
mutual
theorem unsetN_len : ∀ (n : Nd) (l : List (Int × Int)), (unsetN n l).length = l.length
  | .mk h subs, l => by
    rw [unsetN, unsetL_len]
    split
    · simp
    · rfl
theorem unsetL_len : ∀ (s : List Nd) (l : List (Int × Int)), (unsetL s l).length = l.length
  | [], l => by rw [unsetL]
  | n :: r, l => by rw [unsetL, unsetL_len r, unsetN_len n]
end
theorem OwnSp.len {w : World} {B g n c : Nat} {l : List (Int × Int)} (h : OwnSp w B (.slice (some ⟨g, 0, none⟩) n c) l) : n = l.length := by
  rcases OwnR.slice h with ⟨h0, _⟩ | ⟨g', cap, cur, hv, _⟩
  · cases h0
  · simp only [Value.slice.injEq, spR_len] at hv; exact hv.2.1

set_option maxRecDepth 100000 in
set_option maxHeartbeats 4000000 in
theorem unset_any : ∀ (n : Nd) (svn : Value) (W w : World) (B g nn c : Nat) (l : List (Int × Int)), NdOk W n svn → formB n = true → smallN n → Ext W w → W.heap.size ≤ g → OwnSp w B (.slice (some ⟨g, 0, none⟩) nn c) l →
    Calls Tryd.prog 99 #[nodeV n.h svn, .slice (some ⟨g, 0, none⟩) nn c] w fun r w' => r = .returned (.tuple #[]) ∧ OwnSp w' B (.slice (some ⟨g, 0, none⟩) nn c) (unsetN n l) ∧ Keeps (· = g) w w' := by
  refine Nd.ind fun h subs ih svn W w B g nn c l hn hf hsm hx hg hO => ?_
  have hcase := form_cases hf
  have hsub := form_sub hf
  obtain ⟨A, cs, rfl⟩ := hn.shape
  obtain ⟨hlen, hsml⟩ := hsm
  simp only [Nd.subs] at *
  show Calls _ _ #[nodeV h _, _] _ _
  have IH := Lib.hid (fun n hm sv W w B g nn c l hn hx hg hO => ih n hm sv W w B g nn c l hn (hsub n hm) (smallL_mem hsml n hm) hx hg hO)
  have HN := Lib.hid hn
  have HR : ∃ l1, Hid (l1 = if h.kind = 7 ∧ h.num < l.length then l.set h.num.toNat (-1, -1) else l) := ⟨_, Lib.hid rfl⟩
  obtain ⟨l1, HR⟩ := HR
  have HF := Lib.hid (show unsetN (.mk h subs) l = unsetL subs l1 by rw [unsetN, HR.out])
  have hnn := hO.len
  subst hnn
  rw [HF.out]
  clear ih hsub hf hn hsml HF
  go_enter Tryd.func99, Tryd.ntmps99
  go_upto_region 1 with (refine wpl_boxNd rfl _ rfl h _ rfl ?_; intro z w1 hb hx1 ez sz)
  replace hO := OwnR.ext hO hx1
  have hx' := hx.trans hx1
  have hk1 : Keeps (· = g) w w1 := Keeps.of_ext hx1
  have n0 : w1.cell? ⟨z, 0, none⟩ = some (.int .i64 h.kind) := hb.cell 0
  have n5 : w1.cell? ⟨z, 5, none⟩ = some (.slice A subs.length cs) := hb.cell 5
  have n6 : w1.cell? ⟨z, 6, none⟩ = some (.int .i64 h.num) := hb.cell 6
  have hzg : z ≠ g := fun e => by
    subst e
    have := (OwnR.own hO z rfl)
    rcases OwnR.slice hO with ⟨h0, _⟩ | ⟨g', cap, cur, hv, _, hB, _⟩
    · cases h0
    · simp only [Value.slice.injEq, Option.some.injEq, Addr.mk.injEq, and_true] at hv
      rw [← hv.1] at hB
      exact hb.ne hB (by decide) rfl
  have hl1 : l1.length = l.length := by rw [HR.out]; split <;> simp
  have HL1 := Lib.hid hl1
  clear ez sz hx1 hx hl1
  by_cases t : h.kind = 7 ∧ h.num < l.length
  case' pos =>
    have hl1 : l1 = l.set h.num.toNat (-1, -1) := HR.out.trans (if_pos t)
    have hnum : 0 ≤ h.num := by omega
    obtain ⟨j, hj⟩ := Int.eq_ofNat_of_zero_le hnum
    obtain ⟨tk, htl⟩ := t
    rw [hj] at hl1 n6 htl
    rw [tk] at n0
    rw [Int.toNat_natCast] at hl1
    have HLE := Lib.hid hl1
    have HKK := Lib.hid hb
    clear HR hcase hnum hl1 hj tk hb
    go_upto_region 3 with (refine wpl_setSp rfl _ _ rfl rfl B g _ c l j (-1, -1) rfl rfl hO (by omega) ?_; intro w2 hO2 hk2)
    rw [← HLE.out] at hO2
    have hb2 := HKK.out.keeps hk2 hzg
    clear HLE HKK hO htl
  case' neg =>
    have hl1 : l1 = l := HR.out.trans (if_neg t)
    have hO2 : OwnSp w1 B (.slice (some ⟨g, 0, none⟩) l.length c) l1 := by rw [hl1]; exact hO
    have hb2 := hb
    have hk2 : Keeps (· = g) w1 w1 := Keeps.refl _ _
    by_cases t2 : h.kind = 7
    case' pos =>
      have t3 : ¬ h.num < l.length := fun h3 => t ⟨t2, h3⟩
      rw [t2] at n0
      generalize h.num = num at *
      clear hl1 HR hcase t t2 hO
      go_upto_region 3 with fail
    case' neg =>
      have t3 : (h.kind == 7) = false := by simpa using t2
      generalize h.kind = kind at *
      clear hl1 HR hcase t t2 hO
      go_upto_region 3 with fail
    all_goals
      clear t3 hb
      generalize w1 = w2 at *
  all_goals
    have n52 : w2.cell? ⟨z, 5, none⟩ = some (.slice A subs.length cs) := hb2.cell 5
    have hx2 := hx'.keep1 hk2 hg
    have hkw := hk1.trans hk2 (fun _ _ e => e)
    clear n0 n5 n6 hk1 hk2 hx' hzg hb2
    go_upto_region 4 with fail
    clear n52
    have hk22 : Keeps (· = g) w2 w2 := Keeps.refl _ _
    go_loopw [24] (fun i wr => ∃ (k : Nat), k ≤ subs.length ∧ i = .int .i64 k ∧ OwnSp wr B (.slice (some ⟨g, 0, none⟩) l.length c) (unsetL (subs.take k) l1) ∧ Keeps (· = g) w2 wr) (fun i _ => subs.length - (intOf i).toNat)
    case atStart => exact ⟨0, Nat.zero_le _, rfl, by rw [List.take_zero, unsetL]; exact hO2, hk22⟩
    case round =>
      clear hk22 hO2
      obtain ⟨k, hk, rfl, hO, hkr⟩ := hrel
      have hxr := hx2.keep1 hkr hg
      by_cases hlt : k < subs.length
      · obtain ⟨g1, o1, sv, rfl, hat, hok⟩ := HN.out.get k hlt
        have hat1 := hat.ext hxr
        have hsl := Lib.hid hok.sl
        have hst := unsetL_snoc (subs.take k) subs[k] l1
        rw [← take_snoc subs k hlt] at hst
        have HST := Lib.hid hst
        have hlk : (unsetL (subs.take k) l1).length = l.length := by rw [unsetL_len, HL1.out]
        have IHk := Lib.hid (fun w' (hw' : Ext W w') hO' => IH.out subs[k] (List.getElem_mem hlt) sv W w' B g l.length c (unsetL (subs.take k) l1) hok hw' hg hO')
        clear hat hok hst IH HN HL1 hlk
        generalize subs[k] = nk at *
        generalize hnh : nk.h = hk' at *
        have HNH := Lib.hid hnh
        clear hnh
        generalize unsetN nk (unsetL (subs.take k) l1) = lres at *
        generalize unsetL (subs.take k) l1 = lk at *
        have t1 : (k : Int) < (subs.length : Int) := by omega
        go_upto_region 6 with (first
          | (refine wpl_loadNd rfl _ rfl g1 (o1 + k * 10) hk' sv rfl hat1 ?_)
          | (refine wpl_allocNd rfl rfl ?_; intro b w3 hb hx3 eb sb)
          | (refine wpl_storeNd rfl _ _ rfl rfl b hk' ⟨0, fun _ => false, 0, 0, 0, false⟩ sv _ rfl rfl hsl.out hb ?_; intro w4 hb4 hk4))
        have hx34 := hx3.keep1 hk4 eb
        have hO4 := OwnR.ext hO hx34
        have HC := Lib.hid (IHk.out w4 (hxr.trans hx34) hO4)
        have hk04 := hkr.ext' hx34
        clear hb hx3 hk4 eb sb hx34 hat1 hO IHk hO4
        go_wp2_with (first
          | (refine wpl_loadNd rfl _ rfl b 0 hk' sv rfl hb4.nd ?_)
          | (go_at_call 99; refine HC.out.mono ?_; rintro e w5 ⟨rfl, hO5, hk5⟩))
        go_roundw
        case rel => exact ⟨k + 1, by omega, by go_num, by rw [HST.out]; exact hO5, hk04.trans hk5 (fun _ _ e => e)⟩
        case measure => simp [intOf]; omega
      · have hkl : subs.take k = subs := List.take_of_length_le (by omega)
        rw [hkl] at hO
        have t1 : ¬ (k : Int) < (subs.length : Int) := by omega
        clear IH HN hkl
        go_wp2
        go_end0
        exact ⟨rfl, hO, hkw.trans hkr (fun _ _ e => e)⟩

end Go.Proofs.YthddlhpndaffjaaDoor
