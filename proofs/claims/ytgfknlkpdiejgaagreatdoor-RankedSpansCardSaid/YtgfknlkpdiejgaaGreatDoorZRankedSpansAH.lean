/- trawlref04.Size and trawllaw22.long as contracts. Condition: the tree lies in memory. What a tree takes, in plain words: relations of places, sets of places led on, forwards and backwards; a repeat's rounds. No program. What a tree takes: pieces of the subject alone; trees one behind the other, forwards and backwards, step by step. No program. Sets of places in memory, and the engine's functions on them: none, has, add, empty, only. Condition: the words lie in memory. -/
import Derived.Test.YtgfknlkpdiejgaaGreatDoorZRankedSpansAE
import Derived.Test.YtgfknlkpdiejgaaGreatDoorZRankedSpansAF
import Derived.Test.YtgfknlkpdiejgaaGreatDoorZRankedSpansAA
import Derived.Test.YtgfknlkpdiejgaaGreatDoorZRankedSpansAG
import Derived.Test.YtgfknlkpdiejgaaGreatDoorSetA
import Derived.Test.YtgfknlkpdiejgaaGreatDoorZRankedSpansAB
import Derived.Carry
namespace Go.Proofs.YtgfknlkpdiejgaaGreatDoor
open Go Go.RowKit

def size04N (t : Nd) : Int := if formB t = true then sizeN t else 0
set_option maxRecDepth 100000 in
set_option maxHeartbeats 4000000 in
theorem rsize_any (t : Nd) (sv : Value) (w : World) (hn : NdOk w t sv) (hsm : smallN t) :
    Calls Tryz.prog 22 #[nodeV t.h sv] w fun r w' => r = .returned (.int .i64 (size04N t)) ∧ Ext w w' := by
  have H1 := Lib.hid (fun W (hW : Ext w W) => form04_any t sv W (NdOk.ext hW _ _ hn) hsm)
  have H2 := Lib.hid (fun W (hW : Ext w W) (hf : formB t = true) => size04_any t sv W (NdOk.ext hW _ _ hn) hsm hf)
  have HR : Hid (size04N t = if formB t = true then sizeN t else 0) := Lib.hid rfl
  clear hn hsm
  generalize size04N t = res at *
  generalize sizeN t = sn at *
  generalize hf : formB t = fb at *
  clear hf
  generalize t.h = h at *
  go_enter Tryz.func22, Tryz.ntmps22
  cases fb
  · have FIN : Hid (res = 0) := Lib.hid (by rw [HR.out, if_neg (by decide)])
    clear H2 HR
    go_wp2_with (first
      | (refine wpl_boxNd rfl _ rfl h _ rfl ?_; intro z w1 hb hx1 ez sz)
      | (refine wpl_loadNd rfl _ rfl z 0 h _ rfl hb.nd ?_)
      | (go_at_call 40; refine (H1.out _ hx1).mono ?_; rintro e w2 ⟨rfl, hx2⟩))
    go_ret
    exact ⟨by rw [FIN.out]; rfl, hx1.trans hx2⟩
  · have FIN : Hid (res = sn) := Lib.hid (by rw [HR.out, if_pos rfl])
    have H3 := Lib.hid (fun W hW => H2.out W hW rfl)
    clear H2 HR
    go_wp2_with (first
      | (refine wpl_boxNd rfl _ rfl h _ rfl ?_; intro z w1 hb hx1 ez sz)
      | (go_at_call 41; refine (H3.out _ (hx1.trans hx2)).mono ?_; rintro e w3 ⟨rfl, hx3⟩)
      | (refine wpl_loadNd rfl _ rfl z 0 h _ rfl (hb.ext hx2).nd ?_)
      | (go_at_call 40; refine (H1.out _ hx1).mono ?_; rintro e w2 ⟨rfl, hx2⟩)
      | (refine wpl_loadNd rfl _ rfl z 0 h _ rfl hb.nd ?_))
    go_ret
    exact ⟨by rw [FIN.out]; rfl, (hx1.trans hx2).trans hx3⟩

/-- What long tells. -/
def longB (lf n sz most : Int) : Bool := decide (lf < 0) || (decide (0 < n) && decide (n ≤ 2000) && (decide (150 < n) || decide (150 < sz) || decide (most < n * sz * sz)))
def longT (t : Nd) (s : ByteArray) (most : Int) : Bool := longB (leftN t 2500) (size04N t) s.size most
theorem long_ok {t : Nd} {s : ByteArray} {most : Int} (h : longT t s most = false) : 0 ≤ leftN t 2500 ∧ (chkN t = 0 → s.size ≤ 150) := by
  unfold longT longB at h
  simp only [Bool.or_eq_false_iff, decide_eq_false_iff_not, Bool.and_eq_false_iff] at h
  refine ⟨by omega, fun hc => ?_⟩
  obtain ⟨h3, _, h5⟩ := chk_ok hc
  have h6 := sizeN_range t h3
  have e : size04N t = sizeN t := by unfold size04N; rw [if_pos h3]
  have h7 := size_nodes t h3
  have h8 := nodesN_pos (expN t)
  rw [e] at h
  omega
set_option maxRecDepth 100000 in
set_option maxHeartbeats 8000000 in
theorem long_any (t : Nd) (sv : Value) (s : ByteArray) (c e most : Int) (w : World) (hn : NdOk w t sv) :
    Calls Tryz.prog 6 #[nodeV t.h sv, .agg #[.string s, .int .i64 c, .int .i64 e], .int .i64 most] w fun r w' => r = .returned (.bool (longT t s most)) ∧ Ext w w' := by
  have HF := Lib.hid (fun W (hW : Ext w W) => few_any t sv 2500 W (NdOk.ext hW _ _ hn) (by omega) (by omega))
  have HS := Lib.hid (fun (h : 0 ≤ leftN t 2500) W (hW : Ext w W) => rsize_any t sv W (NdOk.ext hW _ _ hn) (small_left t 2500 (by omega) h))
  have HOK : Hid (longT t s most = longB (leftN t 2500) (size04N t) s.size most) := Lib.hid rfl
  have HR : Hid (0 ≤ size04N t) := Lib.hid (by
    unfold size04N
    split
    · rename_i h3; have h6 := sizeN_range t h3; omega
    · omega)
  clear hn
  obtain ⟨lf, hlf⟩ : ∃ lf, lf = leftN t 2500 := ⟨_, rfl⟩
  rw [← hlf] at HF HS HOK
  clear hlf
  generalize longT t s most = res at *
  generalize size04N t = n at *
  generalize t.h = h at *
  go_enter Tryz.func6, Tryz.ntmps6
  go_upto_region 1 with (refine wpl_boxNd rfl _ rfl h _ rfl ?_; intro z w1 hb hx1 ez sz)
  have hV := Blk.new w1 29 #[.string s, .int .i64 c, .int .i64 e]
  have hx2 := hx1.alloc (.cells #[.string s, .int .i64 c, .int .i64 e] 29)
  replace hb := hb.ext ((Ext.refl w1).alloc (.cells #[.string s, .int .i64 c, .int .i64 e] 29))
  generalize w1.alloc (.cells #[.string s, .int .i64 c, .int .i64 e] 29) = w2 at *
  generalize w1.heap.size = u at *
  clear hx1 ez sz
  by_cases h1 : 0 ≤ lf
  case neg =>
    rw [decide_eq_false h1] at HF
    have FIN : Hid (res = true) := Lib.hid (by rw [HOK.out]; unfold longB; rw [decide_eq_true (by omega : lf < 0)]; rfl)
    clear HS h1 HOK
    go_wp2_with (first
      | (refine wpl_loadNd rfl _ rfl z 0 h _ rfl hb.nd ?_)
      | (go_at_call 21; refine (HF.out _ hx2).mono ?_; rintro e w3 ⟨rfl, hx3⟩))
    go_ret
    exact ⟨by rw [FIN.out]; rfl, hx2.trans hx3⟩
  rw [decide_eq_true h1] at HF
  have HS2 := Lib.hid (fun W hW => HS.out h1 W hW)
  have HOK2 : Hid (res = (decide (0 < n) && decide (n ≤ 2000) && (decide (150 < n) || decide ((150 : Int) < s.size) || decide (most < n * s.size * s.size)))) := Lib.hid (by rw [HOK.out]; unfold longB; rw [decide_eq_false (by omega : ¬ lf < 0), Bool.false_or])
  clear HS h1 HOK
  go_upto_region 4 with (first
    | (go_at_call 22; refine (HS2.out _ (hx2.trans hx3)).mono ?_; rintro e w4 ⟨rfl, hx4⟩)
    | (refine wpl_loadNd rfl _ rfl z 0 h _ rfl (hb.ext hx3).nd ?_)
    | (go_at_call 21; refine (HF.out _ hx2).mono ?_; rintro e w3 ⟨rfl, hx3⟩)
    | (refine wpl_loadNd rfl _ rfl z 0 h _ rfl hb.nd ?_))
  have HX := Lib.hid ((hx2.trans hx3).trans hx4)
  have v0 := ((hV.ext hx3).ext hx4).cell 0
  simp at v0
  have hn0 := HR.out
  clear hb hV hx2 hx3 hx4 HF HS2 HR
  by_cases c1 : 0 < n
  case neg =>
    have FIN : Hid (res = false) := Lib.hid (by rw [HOK2.out, decide_eq_false c1]; rfl)
    clear HOK2
    go_wp2
    go_ret
    exact ⟨by rw [FIN.out]; rfl, HX.out⟩
  by_cases c2 : n ≤ 2000
  case neg =>
    have FIN : Hid (res = false) := Lib.hid (by rw [HOK2.out, decide_eq_true c1, decide_eq_false c2]; rfl)
    clear HOK2
    go_wp2
    go_ret
    exact ⟨by rw [FIN.out]; rfl, HX.out⟩
  by_cases c3 : 150 < n
  · have FIN : Hid (res = true) := Lib.hid (by rw [HOK2.out, decide_eq_true c1, decide_eq_true c2, decide_eq_true c3]; rfl)
    clear HOK2
    go_wp2
    go_ret
    exact ⟨by rw [FIN.out]; rfl, HX.out⟩
  by_cases c4 : (150 : Int) < s.size
  · have FIN : Hid (res = true) := Lib.hid (by rw [HOK2.out, decide_eq_true c1, decide_eq_true c2, decide_eq_true c4, Bool.or_true]; rfl)
    clear HOK2
    go_wp2
    go_ret
    exact ⟨by rw [FIN.out]; rfl, HX.out⟩
  have HOK3 : Hid (res = decide (most < n * s.size * s.size)) := Lib.hid (by rw [HOK2.out, decide_eq_true c1, decide_eq_true c2, decide_eq_false c3, decide_eq_false c4]; simp)
  clear HOK2
  have c5 : s.size ≤ 150 := by omega
  have hnn : ∃ k : Nat, n = k := Int.eq_ofNat_of_zero_le hn0
  obtain ⟨k, rfl⟩ := hnn
  have m1 : k * s.size ≤ 150 * 150 := Nat.mul_le_mul (by omega) c5
  have m2 : k * s.size * s.size ≤ 150 * 150 * 150 := Nat.mul_le_mul m1 c5
  have q1 : IntKind.i64.wrap ((k : Int) * (s.size : Int)) = (k : Int) * (s.size : Int) := by
    have : (k : Int) * (s.size : Int) = ((k * s.size : Nat) : Int) := by simp
    rw [IntKind.wrap_i64, this]; omega
  have q2 : IntKind.i64.wrap ((k : Int) * (s.size : Int) * (s.size : Int)) = (k : Int) * (s.size : Int) * (s.size : Int) := by
    have : (k : Int) * (s.size : Int) * (s.size : Int) = ((k * s.size * s.size : Nat) : Int) := by simp
    rw [IntKind.wrap_i64, this]; omega
  clear m1 m2 hn0
  by_cases c6 : most < (k : Int) * (s.size : Int) * (s.size : Int)
  · have FIN : Hid (res = true) := Lib.hid (by rw [HOK3.out, decide_eq_true c6])
    clear HOK3
    go_wp2
    go_ret
    exact ⟨by rw [FIN.out]; rfl, HX.out⟩
  · have FIN : Hid (res = false) := Lib.hid (by rw [HOK3.out, decide_eq_false c6])
    clear HOK3
    go_wp2
    go_ret
    exact ⟨by rw [FIN.out]; rfl, HX.out⟩

end Go.Proofs.YtgfknlkpdiejgaaGreatDoor

namespace Go.Proofs.YtgfknlkpdiejgaaGreatDoor
open Classical

/-! ### relations of places -/
abbrev Rl := Int → Int → Prop
def Rl.id : Rl := fun a b => a = b
def Rl.seq (R S : Rl) : Rl := fun a b => ∃ c, R a c ∧ S c b
def Rl.alt (R S : Rl) : Rl := fun a b => R a b ∨ S a b
def Rl.flip (R : Rl) : Rl := fun a b => R b a
/-- So many times, one behind the other. -/
def pw (R : Rl) : Nat → Rl
  | 0 => Rl.id
  | k + 1 => Rl.seq R (pw R k)
theorem pw_snoc (R : Rl) : ∀ k a b, pw R (k + 1) a b ↔ Rl.seq (pw R k) R a b
  | 0, a, b => by
    constructor
    · rintro ⟨c, h1, h2⟩
      exact ⟨a, rfl, by rw [← (show c = b from h2)]; exact h1⟩
    · rintro ⟨c, h1, h2⟩
      exact ⟨b, by rw [(show a = c from h1)]; exact h2, rfl⟩
  | k + 1, a, b => by
    constructor
    · rintro ⟨c, h1, h2⟩
      obtain ⟨d, h3, h4⟩ := (pw_snoc R k c b).1 h2
      exact ⟨d, ⟨c, h1, h3⟩, h4⟩
    · rintro ⟨d, ⟨c, h1, h3⟩, h4⟩
      exact ⟨c, h1, (pw_snoc R k c b).2 ⟨d, h3, h4⟩⟩
theorem pw_flip (R : Rl) : ∀ k a b, pw R.flip k a b ↔ pw R k b a
  | 0, a, b => ⟨Eq.symm, Eq.symm⟩
  | k + 1, a, b => by
    rw [pw_snoc R k b a]
    constructor
    · rintro ⟨c, h1, h2⟩
      exact ⟨c, (pw_flip R k c b).1 h2, h1⟩
    · rintro ⟨c, h1, h2⟩
      exact ⟨c, h2, (pw_flip R k c b).2 h1⟩
theorem pw_add (R : Rl) : ∀ i j a b, pw R (i + j) a b ↔ ∃ c, pw R i a c ∧ pw R j c b
  | 0, j, a, b => by
    rw [Nat.zero_add]
    constructor
    · intro h; exact ⟨a, rfl, h⟩
    · rintro ⟨c, rfl, h⟩; exact h
  | i + 1, j, a, b => by
    rw [show i + 1 + j = (i + j) + 1 by omega]
    constructor
    · rintro ⟨c, h1, h2⟩
      obtain ⟨d, h3, h4⟩ := (pw_add R i j c b).1 h2
      exact ⟨d, ⟨c, h1, h3⟩, h4⟩
    · rintro ⟨d, ⟨c, h1, h3⟩, h4⟩
      exact ⟨c, h1, (pw_add R i j c b).2 ⟨d, h3, h4⟩⟩
/-- A repeat: from least to most rounds (most < 0: as many as one likes). -/
def rpR (R : Rl) (mn mx : Int) : Rl := fun a b => ∃ k : Nat, mn ≤ k ∧ (mx < 0 ∨ (k : Int) ≤ mx) ∧ pw R k a b
theorem rpR_flip (R : Rl) (mn mx a b : Int) : rpR R.flip mn mx a b ↔ rpR R mn mx b a := by
  unfold rpR
  constructor
  · rintro ⟨k, h1, h2, h3⟩; exact ⟨k, h1, h2, (pw_flip R k a b).1 h3⟩
  · rintro ⟨k, h1, h2, h3⟩; exact ⟨k, h1, h2, (pw_flip R k a b).2 h3⟩
section
variable (L : Hd → Int → Int → Bool)
mutual
/-- The pieces that a tree takes; L: what a leaf takes. -/
def tkN : Nd → Int → Int → Prop
  | .mk h subs, a, b => if h.kind = 5 then tkS subs a b else if h.kind = 6 ∨ h.kind = 7 then tkA subs a b else if h.kind = 8 then rpR (fun x y => tkA subs x y) h.min h.max a b else L h a b = true
/-- .. trees one behind the other. -/
def tkS : List Nd → Int → Int → Prop
  | [], a, b => a = b
  | n :: r, a, b => ∃ c, tkN n a c ∧ tkS r c b
/-- .. one of some trees. -/
def tkA : List Nd → Int → Int → Prop
  | [], _, _ => False
  | n :: r, a, b => tkN n a b ∨ tkA r a b
end
theorem tkA_one (n : Nd) (a b : Int) : tkA L [n] a b ↔ tkN L n a b := by rw [tkA, tkA]; simp
theorem tkA_iff : ∀ (l : List Nd) (a b : Int), tkA L l a b ↔ ∃ n ∈ l, tkN L n a b
  | [], a, b => by rw [tkA]; simp
  | n :: r, a, b => by rw [tkA, tkA_iff r a b]; simp
theorem tkS_app : ∀ (l r : List Nd) (a b : Int), tkS L (l ++ r) a b ↔ ∃ c, tkS L l a c ∧ tkS L r c b
  | [], r, a, b => by
    simp only [List.nil_append]
    constructor
    · intro h; exact ⟨a, by rw [tkS], h⟩
    · rintro ⟨c, h1, h2⟩
      rw [tkS] at h1
      rw [h1]
      exact h2
  | n :: l, r, a, b => by
    rw [List.cons_append, tkS]
    constructor
    · rintro ⟨c, h1, h2⟩
      obtain ⟨d, h3, h4⟩ := (tkS_app l r c b).1 h2
      exact ⟨d, by rw [tkS]; exact ⟨c, h1, h3⟩, h4⟩
    · rintro ⟨d, h1, h2⟩
      rw [tkS] at h1
      obtain ⟨c, h3, h4⟩ := h1
      exact ⟨c, h3, (tkS_app l r c b).2 ⟨d, h4, h2⟩⟩
theorem tkS_one (n : Nd) (a b : Int) : tkS L [n] a b ↔ tkN L n a b := by
  rw [tkS]
  constructor
  · rintro ⟨c, h1, h2⟩; rw [tkS] at h2; rw [← h2]; exact h1
  · intro h; exact ⟨b, h, by rw [tkS]⟩
end

/-! ### sets of places -/
abbrev Pl := Nat → Bool
noncomputable def img (R : Rl) (p : Pl) : Pl := fun j => decide (∃ i : Nat, p i = true ∧ R i j)
def orP (p q : Pl) : Pl := fun i => p i || q i
def lessP (p q : Pl) : Pl := fun i => p i && !q i
def noP : Pl := fun _ => false
def oneP (i : Nat) : Pl := fun j => decide (j = i)
theorem img_iff {R : Rl} {p : Pl} {j : Nat} : img R p j = true ↔ ∃ i : Nat, p i = true ∧ R i j := by unfold img; rw [decide_eq_true_eq]
theorem pl_ext {p q : Pl} (h : ∀ j, p j = true ↔ q j = true) : p = q := by
  funext j
  rw [Bool.eq_iff_iff]
  exact h j
/-- A relation leads from places to places of the subject alone. -/
def Inn (n : Nat) (R : Rl) : Prop := ∀ a b : Int, 0 ≤ a → a ≤ n → R a b → 0 ≤ b ∧ b ≤ n
def PlN (n : Nat) (p : Pl) : Prop := ∀ i, p i = true → i ≤ n
theorem Inn.id (n : Nat) : Inn n Rl.id := fun a b h1 h2 h => by rw [← (show a = b from h)]; exact ⟨h1, h2⟩
theorem Inn.pw {n : Nat} {R : Rl} (h : Inn n R) : ∀ k, Inn n (pw R k)
  | 0 => Inn.id n
  | k + 1 => fun a b h1 h2 ⟨c, h3, h4⟩ => by
    obtain ⟨h5, h6⟩ := h a c h1 h2 h3
    exact Inn.pw h k c b h5 h6 h4
theorem Inn.rp {n : Nat} {R : Rl} (h : Inn n R) (mn mx : Int) : Inn n (rpR R mn mx) := fun a b h1 h2 ⟨k, _, _, h3⟩ => h.pw k a b h1 h2 h3
theorem PlN.img {n : Nat} {R : Rl} {p : Pl} (hp : PlN n p) (hR : Inn n R) : PlN n (img R p) := fun j hj => by
  obtain ⟨i, h1, h2⟩ := img_iff.1 hj
  have := hR i j (by omega) (by have := hp i h1; omega) h2
  omega
theorem PlN.or {n : Nat} {p q : Pl} (hp : PlN n p) (hq : PlN n q) : PlN n (orP p q) := fun i hi => by
  unfold orP at hi
  rw [Bool.or_eq_true] at hi
  exact hi.elim (hp i) (hq i)
theorem PlN.less {n : Nat} {p q : Pl} (hp : PlN n p) : PlN n (lessP p q) := fun i hi => by
  unfold lessP at hi
  rw [Bool.and_eq_true] at hi
  exact hp i hi.1
theorem PlN.no (n : Nat) : PlN n noP := fun i hi => by cases hi
theorem PlN.one {n i : Nat} (h : i ≤ n) : PlN n (oneP i) := fun j hj => by
  unfold oneP at hj
  rw [decide_eq_true_eq] at hj
  omega
theorem img_id (p : Pl) : img Rl.id p = p := pl_ext fun j => by
  rw [img_iff]
  constructor
  · rintro ⟨i, h1, h2⟩
    have : i = j := by have h3 : (i : Int) = j := h2; omega
    rwa [← this]
  · intro h; exact ⟨j, h, rfl⟩
theorem img_no (R : Rl) : img R noP = noP := pl_ext fun j => by
  rw [img_iff]
  constructor
  · rintro ⟨i, h1, _⟩; cases h1
  · intro h; cases h
theorem img_or (R : Rl) (p q : Pl) : img R (orP p q) = orP (img R p) (img R q) := pl_ext fun j => by
  rw [img_iff]
  unfold orP
  rw [Bool.or_eq_true, img_iff, img_iff]
  constructor
  · rintro ⟨i, h1, h2⟩
    rw [Bool.or_eq_true] at h1
    exact h1.elim (fun h => .inl ⟨i, h, h2⟩) (fun h => .inr ⟨i, h, h2⟩)
  · rintro (⟨i, h1, h2⟩ | ⟨i, h1, h2⟩)
    · exact ⟨i, by rw [h1]; rfl, h2⟩
    · exact ⟨i, by rw [h1, Bool.or_true], h2⟩
theorem img_alt (R S : Rl) (p : Pl) : img (Rl.alt R S) p = orP (img R p) (img S p) := pl_ext fun j => by
  rw [img_iff]
  unfold orP
  rw [Bool.or_eq_true, img_iff, img_iff]
  constructor
  · rintro ⟨i, h1, h2⟩
    exact h2.elim (fun h => .inl ⟨i, h1, h⟩) (fun h => .inr ⟨i, h1, h⟩)
  · rintro (⟨i, h1, h2⟩ | ⟨i, h1, h2⟩)
    · exact ⟨i, h1, .inl h2⟩
    · exact ⟨i, h1, .inr h2⟩
theorem img_seq {n : Nat} {R S : Rl} {p : Pl} (hp : PlN n p) (hR : Inn n R) : img (Rl.seq R S) p = img S (img R p) := pl_ext fun j => by
  rw [img_iff, img_iff]
  constructor
  · rintro ⟨i, h1, c, h2, h3⟩
    have h4 := hR i c (by omega) (by have := hp i h1; omega) h2
    refine ⟨c.toNat, img_iff.2 ⟨i, h1, ?_⟩, ?_⟩
    · rw [Int.toNat_of_nonneg h4.1]; exact h2
    · rw [Int.toNat_of_nonneg h4.1]; exact h3
  · rintro ⟨c, h1, h2⟩
    obtain ⟨i, h3, h4⟩ := img_iff.1 h1
    exact ⟨i, h3, c, h4, h2⟩
theorem img_congr {n : Nat} {R S : Rl} {p : Pl} (hp : PlN n p) (h : ∀ a b : Int, 0 ≤ a → a ≤ n → 0 ≤ b → (R a b ↔ S a b)) : img R p = img S p := pl_ext fun j => by
  rw [img_iff, img_iff]
  constructor
  · rintro ⟨i, h1, h2⟩
    exact ⟨i, h1, (h i j (by omega) (by have := hp i h1; omega) (by omega)).1 h2⟩
  · rintro ⟨i, h1, h2⟩
    exact ⟨i, h1, (h i j (by omega) (by have := hp i h1; omega) (by omega)).2 h2⟩
theorem img_pw {n : Nat} {R : Rl} (hR : Inn n R) {p : Pl} (hp : PlN n p) (k : Nat) : img (pw R (k + 1)) p = img R (img (pw R k) p) := by
  rw [← img_seq hp (hR.pw k)]
  exact img_congr hp fun a b _ _ _ => pw_snoc R k a b

/-! ### a repeat's rounds: k rounds more at most -/
noncomputable def upP (R : Rl) (q : Pl) (k : Nat) : Pl := fun j => decide (∃ m, m ≤ k ∧ img (pw R m) q j = true)
theorem up_iff {R : Rl} {q : Pl} {k j : Nat} : upP R q k j = true ↔ ∃ m, m ≤ k ∧ img (pw R m) q j = true := by unfold upP; rw [decide_eq_true_eq]
/-- What the k-th round leads to first. -/
noncomputable def newP (R : Rl) (q : Pl) : Nat → Pl
  | 0 => q
  | k + 1 => lessP (upP R q (k + 1)) (upP R q k)
theorem up_zero (R : Rl) (q : Pl) : upP R q 0 = q := pl_ext fun j => by
  rw [up_iff]
  constructor
  · rintro ⟨m, hm, h⟩
    obtain rfl : m = 0 := by omega
    rwa [show pw R 0 = Rl.id from rfl, img_id] at h
  · intro h
    exact ⟨0, Nat.le_refl _, by rw [show pw R 0 = Rl.id from rfl, img_id]; exact h⟩
theorem up_mono {R : Rl} {q : Pl} {k k' j : Nat} (h : k ≤ k') (hj : upP R q k j = true) : upP R q k' j = true := by
  obtain ⟨m, hm, h1⟩ := up_iff.1 hj
  exact up_iff.2 ⟨m, by omega, h1⟩
theorem PlN.up {n : Nat} {R : Rl} {q : Pl} (hR : Inn n R) (hq : PlN n q) (k : Nat) : PlN n (upP R q k) := fun j hj => by
  obtain ⟨m, _, h⟩ := up_iff.1 hj
  exact hq.img (hR.pw m) j h
theorem PlN.new {n : Nat} {R : Rl} {q : Pl} (hR : Inn n R) (hq : PlN n q) : ∀ k, PlN n (newP R q k)
  | 0 => hq
  | k + 1 => (hq.up hR (k + 1)).less
theorem new_up {R : Rl} {q : Pl} {k j : Nat} (h : newP R q k j = true) : upP R q k j = true := by
  cases k with
  | zero => rw [up_zero]; exact h
  | succ k =>
    unfold newP lessP at h
    rw [Bool.and_eq_true] at h
    exact h.1
/-- The round: what is led to from the new places, without what is there already. -/
theorem round_new {n : Nat} {R : Rl} (hR : Inn n R) {q : Pl} (hq : PlN n q) (k : Nat) : lessP (img R (newP R q k)) (upP R q k) = newP R q (k + 1) := pl_ext fun j => by
  unfold newP lessP
  simp only [Bool.and_eq_true, Bool.not_eq_true']
  constructor
  · rintro ⟨h1, h2⟩
    refine ⟨?_, h2⟩
    obtain ⟨i, h3, h4⟩ := img_iff.1 h1
    obtain ⟨m, hm, h5⟩ := up_iff.1 (new_up h3)
    exact up_iff.2 ⟨m + 1, by omega, by rw [img_pw hR hq]; exact img_iff.2 ⟨i, h5, h4⟩⟩
  · rintro ⟨h1, h2⟩
    refine ⟨?_, h2⟩
    obtain ⟨m, hm, h5⟩ := up_iff.1 h1
    have hm' : m = k + 1 := by
      rcases Nat.lt_or_ge k m with h | h
      · omega
      · rw [up_iff.2 ⟨m, h, h5⟩] at h2; cases h2
    subst hm'
    rw [img_pw hR hq] at h5
    obtain ⟨i, h6, h7⟩ := img_iff.1 h5
    refine img_iff.2 ⟨i, ?_, h7⟩
    cases k with
    | zero => rw [show pw R 0 = Rl.id from rfl, img_id] at h6; exact h6
    | succ k =>
      show lessP _ _ i = true
      unfold lessP
      rw [Bool.and_eq_true, Bool.not_eq_true']
      refine ⟨up_iff.2 ⟨k + 1, Nat.le_refl _, h6⟩, ?_⟩
      rw [Bool.eq_false_iff]
      intro h8
      obtain ⟨m, hm, h9⟩ := up_iff.1 h8
      have : upP R q (k + 1) j = true := up_iff.2 ⟨m + 1, by omega, by rw [img_pw hR hq]; exact img_iff.2 ⟨i, h9, h7⟩⟩
      rw [this] at h2
      cases h2
theorem round_up (R : Rl) (q : Pl) (k : Nat) : orP (upP R q k) (newP R q (k + 1)) = upP R q (k + 1) := pl_ext fun j => by
  unfold orP newP lessP
  simp only [Bool.or_eq_true, Bool.and_eq_true, Bool.not_eq_true']
  constructor
  · rintro (h | h)
    · exact up_mono (by omega) h
    · exact h.1
  · intro h
    cases h2 : upP R q k j with
    | true => exact .inl rfl
    | false => exact .inr ⟨h, rfl⟩
/-- Where a round leads nowhere new, no round does. -/
theorem up_closed {n : Nat} {R : Rl} (hR : Inn n R) {q : Pl} (hq : PlN n q) {k : Nat} (h : newP R q k = noP) : ∀ d, upP R q (k + d) = upP R q k
  | 0 => rfl
  | d + 1 => by
    have ih := up_closed hR hq h d
    have hn : ∀ d, newP R q (k + d) = noP := fun d => by
      induction d with
      | zero => exact h
      | succ d ih2 => rw [show k + (d + 1) = (k + d) + 1 by omega, ← round_new hR hq, ih2, img_no]; rfl
    rw [show k + (d + 1) = (k + d) + 1 by omega, ← round_up R q (k + d), ih, show k + d + 1 = k + (d + 1) by omega, hn (d + 1)]
    funext j
    simp [orP, noP]
/-- The repeat, by its least rounds and then as many as it may have more. -/
theorem rep_up {n : Nat} {R : Rl} (hR : Inn n R) {p : Pl} (hp : PlN n p) (mn : Nat) (mx : Int) (K : Nat)
    (hK : (0 ≤ mx ∧ (mn : Int) + K = mx) ∨ newP R (img (pw R mn) p) K = noP ∧ (mx < 0 ∨ (mn : Int) + K ≤ mx)) : img (rpR R mn mx) p = upP R (img (pw R mn) p) K := pl_ext fun j => by
  have hq := hp.img (hR.pw mn)
  rw [img_iff, up_iff]
  constructor
  · rintro ⟨i, h1, k, h2, h3, h4⟩
    obtain ⟨d, rfl⟩ : ∃ d, k = mn + d := ⟨k - mn, by omega⟩
    obtain ⟨c, h5, h6⟩ := (pw_add R mn d i j).1 h4
    have hc := hR.pw mn i c (by omega) (by have := hp i h1; omega) h5
    have hd : img (pw R d) (img (pw R mn) p) j = true := img_iff.2 ⟨c.toNat, img_iff.2 ⟨i, h1, by rw [Int.toNat_of_nonneg hc.1]; exact h5⟩, by rw [Int.toNat_of_nonneg hc.1]; exact h6⟩
    rcases hK with ⟨h7, h8⟩ | ⟨h7, _⟩
    · exact ⟨d, by omega, hd⟩
    · rcases Nat.lt_or_ge K d with h9 | h9
      · have h10 : upP R (img (pw R mn) p) (K + (d - K)) j = true := up_iff.2 ⟨d, by omega, hd⟩
        rw [up_closed hR hq h7] at h10
        exact up_iff.1 h10
      · exact ⟨d, h9, hd⟩
  · rintro ⟨m, hm, h⟩
    obtain ⟨c, h1, h2⟩ := img_iff.1 h
    obtain ⟨i, h3, h4⟩ := img_iff.1 h1
    exact ⟨i, h3, mn + m, by omega, by omega, (pw_add R mn m i j).2 ⟨c, h4, h2⟩⟩

end Go.Proofs.YtgfknlkpdiejgaaGreatDoor

namespace Go.Proofs.YtgfknlkpdiejgaaGreatDoor

/-- Forwards alone; and but for standing still, within the subject. -/
def Mon (n : Nat) (R : Rl) : Prop := ∀ a b, R a b → a ≤ b ∧ (a = b ∨ (0 ≤ a ∧ b ≤ n))
theorem Mon.inn {n : Nat} {R : Rl} (h : Mon n R) : Inn n R := fun a b h1 h2 hR => by
  have := h a b hR
  omega
theorem Mon.innB {n : Nat} {R : Rl} (h : Mon n R) : Inn n R.flip := fun a b h1 h2 hR => by
  have := h b a hR
  omega
theorem Mon.id (n : Nat) : Mon n Rl.id := fun a b h => by
  have : a = b := h
  omega
theorem Mon.seq {n : Nat} {R S : Rl} (h : Mon n R) (k : Mon n S) : Mon n (Rl.seq R S) := fun a b ⟨c, h1, h2⟩ => by
  have := h a c h1
  have := k c b h2
  omega
theorem Mon.pw {n : Nat} {R : Rl} (h : Mon n R) : ∀ k, Mon n (pw R k)
  | 0 => Mon.id n
  | k + 1 => h.seq (Mon.pw h k)
theorem Mon.rp {n : Nat} {R : Rl} (h : Mon n R) (mn mx : Int) : Mon n (rpR R mn mx) := fun a b ⟨k, _, _, h3⟩ => h.pw k a b h3
def LOk (n : Nat) (L : Hd → Int → Int → Bool) : Prop := ∀ h a b, L h a b = true → 0 ≤ a ∧ a ≤ b ∧ b ≤ n
section
variable {n : Nat} {L : Hd → Int → Int → Bool}
mutual
theorem tkN_mon (hL : LOk n L) : ∀ t : Nd, Mon n (tkN L t)
  | .mk h subs => fun a b hR => by
    rw [tkN] at hR
    split at hR
    · exact tkS_mon hL subs a b hR
    · split at hR
      · exact tkA_mon hL subs a b hR
      · split at hR
        · exact Mon.rp (tkA_mon hL subs) h.min h.max a b hR
        · have := hL h a b hR
          omega
theorem tkS_mon (hL : LOk n L) : ∀ l : List Nd, Mon n (tkS L l)
  | [] => fun a b hR => by
    rw [tkS] at hR
    exact Mon.id n a b hR
  | t :: r => fun a b hR => by
    rw [tkS] at hR
    exact (tkN_mon hL t).seq (tkS_mon hL r) a b hR
theorem tkA_mon (hL : LOk n L) : ∀ l : List Nd, Mon n (tkA L l)
  | [] => fun a b hR => by
    rw [tkA] at hR
    exact hR.elim
  | t :: r => fun a b hR => by
    rw [tkA] at hR
    exact hR.elim (tkN_mon hL t a b) (tkA_mon hL r a b)
end
/-- Forwards, or backwards. -/
def dirR (back : Bool) (R : Rl) : Rl := if back then R.flip else R
theorem dirR_inn {R : Rl} (h : Mon n R) (back : Bool) : Inn n (dirR back R) := by
  cases back with
  | false => exact h.inn
  | true => exact h.innB
theorem dir_id (back : Bool) (p : Pl) : img (dirR back Rl.id) p = p := by
  cases back with
  | false => exact img_id p
  | true =>
    have e : (dirR true Rl.id) = Rl.id := by funext a b; exact propext ⟨Eq.symm, Eq.symm⟩
    rw [e, img_id]
theorem dir_congr (back : Bool) {R S : Rl} (h : ∀ a b, R a b ↔ S a b) : dirR back R = dirR back S := by
  have e : R = S := by funext a b; exact propext (h a b)
  rw [e]
theorem dir_rp (back : Bool) (R : Rl) (mn mx : Int) : dirR back (rpR R mn mx) = rpR (dirR back R) mn mx := by
  cases back with
  | false => rfl
  | true => funext a b; exact propext (rpR_flip R mn mx a b).symm
/-- The trees that so many steps have gone over: the first ones, or the last ones. -/
def gone (back : Bool) (l : List Nd) (i : Nat) : List Nd := if back then l.drop (l.length - i) else l.take i
def nextOf (back : Bool) (len i : Nat) : Nat := if back then len - 1 - i else i
theorem gone_zero (back : Bool) (l : List Nd) : gone back l 0 = [] := by cases back <;> simp [gone]
theorem gone_all (back : Bool) (l : List Nd) : gone back l l.length = l := by cases back <;> simp [gone]
theorem parts_step (hL : LOk n L) (back : Bool) (l : List Nd) (i : Nat) (hi : i < l.length) (hk : nextOf back l.length i < l.length) {p : Pl} (hp : PlN n p) :
    img (dirR back (tkS L (gone back l (i + 1)))) p = img (dirR back (tkN L l[nextOf back l.length i])) (img (dirR back (tkS L (gone back l i))) p) := by
  cases back with
  | false =>
    have e : gone false l (i + 1) = gone false l i ++ [l[i]] := by
      show l.take (i + 1) = l.take i ++ [l[i]]
      rw [List.take_add_one, List.getElem?_eq_getElem hi]
      rfl
    rw [e]
    show img (tkS L (gone false l i ++ [l[i]])) p = img (tkN L l[i]) (img (tkS L (gone false l i)) p)
    rw [← img_seq hp (tkS_mon hL _).inn]
    refine img_congr hp fun a b _ _ _ => ?_
    rw [tkS_app]
    simp only [tkS_one]
    rfl
  | true =>
    have e : gone true l (i + 1) = l[l.length - 1 - i] :: gone true l i := by
      show l.drop (l.length - (i + 1)) = _ :: l.drop (l.length - i)
      rw [show l.length - (i + 1) = l.length - 1 - i by omega, List.drop_eq_getElem_cons (by omega), show l.length - 1 - i + 1 = l.length - i by omega]
      rfl
    rw [e]
    show img (Rl.flip (tkS L (l[l.length - 1 - i] :: gone true l i))) p = img (Rl.flip (tkN L l[l.length - 1 - i])) (img (Rl.flip (tkS L (gone true l i))) p)
    rw [← img_seq hp (tkS_mon hL _).innB]
    refine img_congr hp fun a b _ _ _ => ?_
    show tkS L (_ :: _) b a ↔ _
    rw [tkS]
    constructor
    · rintro ⟨c, h1, h2⟩; exact ⟨c, h2, h1⟩
    · rintro ⟨c, h1, h2⟩; exact ⟨c, h2, h1⟩
theorem alt_step (back : Bool) (l : List Nd) (i : Nat) (hi : i < l.length) (p : Pl) :
    img (dirR back (tkA L (l.take (i + 1)))) p = orP (img (dirR back (tkA L (l.take i))) p) (img (dirR back (tkN L l[i])) p) := by
  have e : dirR back (tkA L (l.take (i + 1))) = Rl.alt (dirR back (tkA L (l.take i))) (dirR back (tkN L l[i])) := by
    have h : ∀ a b, tkA L (l.take (i + 1)) a b ↔ tkA L (l.take i) a b ∨ tkN L l[i] a b := fun a b => by
      rw [tkA_iff, tkA_iff, List.take_add_one, List.getElem?_eq_getElem hi]
      simp only [List.mem_append, Option.toList, List.mem_singleton]
      constructor
      · rintro ⟨m, h1 | h1, h2⟩
        · exact .inl ⟨m, h1, h2⟩
        · exact .inr (h1 ▸ h2)
      · rintro (⟨m, h1, h2⟩ | h)
        · exact ⟨m, .inl h1, h2⟩
        · exact ⟨_, .inr rfl, h⟩
    funext a b
    cases back with
    | false => exact propext (h a b)
    | true => exact propext (h b a)
  rw [e, img_alt]
theorem alt_none (back : Bool) (p : Pl) : img (dirR back (tkA L [])) p = noP := pl_ext fun j => by
  rw [img_iff]
  constructor
  · rintro ⟨i, _, h⟩
    cases back with
    | false => exact (by rw [show dirR false (tkA L []) i j = tkA L [] i j from rfl, tkA] at h; exact h.elim)
    | true => exact (by rw [show dirR true (tkA L []) i j = tkA L [] j i from rfl, tkA] at h; exact h.elim)
  · intro h; cases h
/-- A leaf's step, place by place. -/
theorem leaf_img (h : Hd) (subs : List Nd) (hk : ¬ (5 ≤ h.kind ∧ h.kind ≤ 8)) (a b : Int) : tkN L (.mk h subs) a b ↔ L h a b = true := by
  rw [tkN, if_neg (by omega), if_neg (by omega), if_neg (by omega)]
theorem tk_seq (h : Hd) (subs : List Nd) (hk : h.kind = 5) (a b : Int) : tkN L (.mk h subs) a b ↔ tkS L subs a b := by
  rw [tkN, if_pos hk]
theorem tk_alt (h : Hd) (subs : List Nd) (hk : h.kind = 6) (a b : Int) : tkN L (.mk h subs) a b ↔ tkA L subs a b := by
  rw [tkN, if_neg (by omega), if_pos (.inl hk)]
theorem tk_group (h : Hd) (s : Nd) (hk : h.kind = 7) (a b : Int) : tkN L (.mk h [s]) a b ↔ tkN L s a b := by
  rw [tkN, if_neg (by omega), if_pos (.inr hk), tkA_one]
theorem tk_rep (h : Hd) (s : Nd) (hk : h.kind = 8) (a b : Int) : tkN L (.mk h [s]) a b ↔ rpR (tkN L s) h.min h.max a b := by
  rw [tkN, if_neg (by omega), if_neg (by omega), if_pos hk]
  have e : (fun x y => tkA L [s] x y) = tkN L s := by funext x y; exact propext (tkA_one L s x y)
  rw [e]
end

end Go.Proofs.YtgfknlkpdiejgaaGreatDoor

namespace Go.Proofs.YtgfknlkpdiejgaaGreatDoor
open Go Go.RowKit

theorem info_u64 : (Tryz.prog.info? 22).map (fun i => (i.zero, i.size, i.bytes)) = some (some (.int .u64 0), 1, 8) := by kernel_rfl
/-- The words of a set of places. -/
def pwC (nw : Nat) (p : Pl) : List Value := (List.range nw).map fun j => Value.int .u64 (wd p j)
theorem pwC_len (nw : Nat) (p : Pl) : (pwC nw p).length = nw := by simp [pwC]
theorem pwC_get {nw : Nat} {p : Pl} {j : Nat} (h : j < nw) : (pwC nw p)[j]? = some (.int .u64 (wd p j)) := by
  unfold pwC
  rw [List.getElem?_map, List.getElem?_range h]
  rfl
/-- A slice of words reads as a set of places. -/
def RdP (W : World) (v : Value) (nw : Nat) (p : Pl) : Prop := ∃ A c, v = .slice A nw c ∧ nw ≤ c ∧ ∀ j, j < nw → ∃ g o, A = some ⟨g, o, none⟩ ∧ W.cell? ⟨g, o + j, none⟩ = some (.int .u64 (wd p j))
theorem RdP.ext {W W' : World} {v : Value} {nw : Nat} {p : Pl} (h : RdP W v nw p) (hx : Ext W W') : RdP W' v nw p := by
  obtain ⟨A, c, hv, hlc, hc⟩ := h
  exact ⟨A, c, hv, hlc, fun j hj => by obtain ⟨g, o, hA, hcell⟩ := hc j hj; exact ⟨g, o, hA, hx.cell hcell⟩⟩
abbrev OwnP (W : World) (B : Nat) (v : Value) (nw : Nat) (p : Pl) : Prop := Own1 W B 22 v (pwC nw p)
theorem RdP.of_own {W : World} {B nw : Nat} {v : Value} {p : Pl} (h : OwnP W B v nw p) : RdP W v nw p := by
  rcases h.slice with ⟨rfl, h0⟩ | ⟨g, cap, cur, rfl, _, _, hlc, _⟩
  · have : nw = 0 := by rw [← pwC_len nw p, h0]; rfl
    subst this
    exact ⟨none, 0, rfl, Nat.le_refl _, fun j hj => absurd hj (Nat.not_lt_zero j)⟩
  · refine ⟨some ⟨g, 0, none⟩, cap, by rw [pwC_len], by rwa [pwC_len] at hlc, fun j hj => ⟨g, 0, rfl, ?_⟩⟩
    rw [Nat.zero_add]
    exact h.cells.2 j _ (pwC_get hj)
/-- The block of a slice. -/
def blkOf : Value → Option Nat
  | .slice (some a) _ _ => some a.block
  | _ => none
theorem RdP.keeps {W W' : World} {F : Nat → Prop} {v : Value} {nw : Nat} {p : Pl} (h : RdP W v nw p) (hk : Keeps F W W') (hF : ∀ g, blkOf v = some g → ¬ F g) : RdP W' v nw p := by
  obtain ⟨A, c, rfl, hlc, hc⟩ := h
  refine ⟨A, c, rfl, hlc, fun j hj => ?_⟩
  obtain ⟨g, o, rfl, hcell⟩ := hc j hj
  exact ⟨g, o, rfl, cell_keeps hcell hk (hF g rfl)⟩
theorem own_blk {W : World} {B : Nat} {e : TypeId} {v : Value} {xs : List Value} (h : Own1 W B e v xs) : blkOf v = v.ownBlock := by
  rcases h.slice with ⟨rfl, _⟩ | ⟨g, cap, cur, rfl, _⟩ <;> rfl
/-- The engine: its scene, its words, its spans. -/
def EnAt (W : World) (ev x : Value) (nw : Nat) (sv : Value) : Prop := ∃ g, ev = .pointer (some ⟨g, 0, none⟩) ∧ Blk W g 93 #[x, .int .i64 nw, sv]
theorem EnAt.ext {W W' : World} {ev x sv : Value} {nw : Nat} (h : EnAt W ev x nw sv) (hx : Ext W W') : EnAt W' ev x nw sv := by
  obtain ⟨g, h1, h2⟩ := h
  exact ⟨g, h1, h2.ext hx⟩

theorem pwC_no (n : Nat) : pwC n noP = List.replicate n (.int .u64 0) := by
  rw [List.eq_replicate_iff]
  refine ⟨pwC_len _ _, fun b hb => ?_⟩
  obtain ⟨j, _, rfl⟩ := List.mem_map.1 hb
  rw [show wd noP j = 0 from wd_none j]
  rfl
theorem made_u64 (n : Nat) : madeCells #[Value.int .u64 0] n = (pwC n noP).toArray := by
  rw [pwC_no]
  apply Array.ext
  · simp [madeCells]
  · intro i h1 h2
    simp [madeCells, Nat.mod_one]
theorem made_pl (nw : Nat) (hn : nw ≤ 100000000) (W : World) : (Instr.makeSlice 68 (.int .i64 (nw : Int)) (.int .i64 (nw : Int))).run Tryz.prog W =
    .ok (.slice (some ⟨W.heap.size, 0, none⟩) nw nw) (W.alloc (.cells (pwC nw noP).toArray 22)) := by
  obtain ⟨i0, hi0, hz0, hz1, hz2⟩ := info_parts info_u64
  have := run_make (P := Tryz.prog) W 68 22 i0 (.int .u64 0) Tryz.underlying68 hi0 hz0 .i64 .i64 (nw : Int) (nw : Int) (by omega) (by omega) (by rw [hz2]; omega) (by omega)
  rw [this]
  rw [Int.toNat_natCast, hz1, Nat.mul_one]
  simp [Value.cells, made_u64]
theorem own_made (W : World) (nw : Nat) (p : Pl) (hn : nw ≤ 100000000) : OwnP (W.alloc (.cells (pwC nw p).toArray 22)) W.heap.size (.slice (some ⟨W.heap.size, 0, none⟩) nw nw) nw p := by
  have hb : Blk (W.alloc (.cells (pwC nw p).toArray 22)) W.heap.size 22 (pwC nw p).toArray := Blk.new W _ _
  refine ⟨by rw [pwC_len, Nat.mul_one], .inr ⟨W.heap.size, nw, (pwC nw p).toArray, by rw [pwC_len], Nat.le_refl _, hb, by rw [pwC_len]; exact Nat.le_refl _, by simp only [maxLen]; omega, by simp [pwC_len], ?_⟩⟩
  rw [pwC_len]
  simp only [Nat.mul_one]
  exact List.take_of_length_le (by rw [pwC_len]; exact Nat.le_refl _)

set_option maxRecDepth 100000 in
theorem none_any (ev x sv : Value) (nw : Nat) (w : World) (h : EnAt w ev x nw sv) (hn : nw ≤ 100000000) :
    Calls Tryz.prog 43 #[ev] w fun e w' => ∃ v, e = .returned v ∧ OwnP w' w.heap.size v nw noP ∧ Ext w w' := by
  obtain ⟨g, rfl, hb⟩ := h
  have c1 : w.cell? ⟨g, 1, none⟩ = some (.int .i64 nw) := hb.cell 1
  have hmk := made_pl nw hn
  clear hb
  go_enter Tryz.func43, Tryz.ntmps43
  go_wp2
  go_ret
  exact ⟨_, rfl, own_made w nw noP hn, (Ext.refl w).alloc _⟩
set_option maxRecDepth 100000 in
set_option maxHeartbeats 4000000 in
theorem hasP_any (v : Value) (nw : Nat) (p : Pl) (i : Nat) (w : World) (h : RdP w v nw p) (hi : i / 64 < nw) (hnw : nw ≤ 100000000) :
    Calls Tryz.prog 32 #[v, .int .i64 i] w fun e w' => e = .returned (.bool (p i)) ∧ w = w' := by
  obtain ⟨A, c, rfl, hlc, hc⟩ := h
  obtain ⟨g, o, rfl, hcell⟩ := hc _ hi
  have h3 := i64_mask63 i (by omega)
  have hB := word_bit (wd p (i / 64)) (i % 64) (wd_lt p (i / 64))
  have hC : (wd p (i / 64)).testBit (i % 64) = p i := by
    rw [wd_bit _ _ _ (by omega)]
    congr 1
    omega
  have HBC := Lib.hid (hB.trans hC)
  have h1 : (i : Int) / 64 = ((i / 64 : Nat) : Int) := by omega
  have hr : i % 64 < 64 := by omega
  clear hB hC hc
  generalize i / 64 = q at *
  generalize i % 64 = r at *
  generalize wd p q = x at *
  go_enter Tryz.func32, Tryz.ntmps32
  go_wp2
  go_ret
  exact ⟨ret_bool HBC.out, rfl⟩

end Go.Proofs.YtgfknlkpdiejgaaGreatDoor
