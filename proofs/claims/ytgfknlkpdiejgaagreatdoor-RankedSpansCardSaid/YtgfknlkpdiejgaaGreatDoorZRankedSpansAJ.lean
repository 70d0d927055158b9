/- The reference's text of a scene as a contract: the subject, or its bytes from the end. Subjects of at most a million bytes. The law's own functions for scenes: place and same answer true where a scene in memory tells what the reference's scene tells. Plain facts: a new scene, and a turned one, tell what the reference's scene tells, at every place. No condition. When a parse is one of a tree, in plain words. No program. -/
import Derived.Test.YtgfknlkpdiejgaaGreatDoorZRankedSpansAI
import Derived.Test.YtgfknlkpdiejgaaGreatDoorZRankedSpansAB
namespace Go.Proofs.YtgfknlkpdiejgaaGreatDoor
open Go.RowKit

/-- The byte at place k. -/
def tb (s : ByteArray) (t : Bool) (k : Nat) : UInt8 := if t then s.data.toList.getD (s.size - 1 - k) 0 else s.data.toList.getD k 0
def tbs (s : ByteArray) (t : Bool) (k : Nat) : List UInt8 := (List.range k).map (tb s t)
def srText (s : ByteArray) (t : Bool) : ByteArray := ⟨(tbs s t s.size).toArray⟩
theorem tbs_succ (s : ByteArray) (t : Bool) (k : Nat) : tbs s t (k + 1) = tbs s t k ++ [tb s t k] := by simp [tbs, List.range_succ]
theorem srByte_tb (s : ByteArray) (t : Bool) (k : Nat) (h : k < s.size) : srByte s t k = ((tb s t k).toNat : Int) := by
  unfold srByte tb
  rw [if_pos ⟨by omega, by omega⟩]
  simp only [Int.toNat_natCast]
  split <;> rfl

def cu8 (l : List UInt8) : List Value := l.map fun b => Value.int .u8 b.toNat
@[simp] theorem cu8_len (l : List UInt8) : (cu8 l).length = l.length := by simp [cu8]

/-- 'string(b)', b a slice that the call itself made. -/
theorem run_string_own {B : Nat} {v : Value} {l : List UInt8} {w : World} (h : Own1 w B 5 v (cu8 l)) :
    (convert 60 9 v).run Tryz.prog w = .ok (.string ⟨l.toArray⟩) w := by
  rcases Nat.eq_zero_or_pos l.length with h0 | h0
  · have : l = [] := List.eq_nil_of_length_eq_zero h0
    subst this
    rcases h.2 with ⟨rfl, _⟩ | ⟨g, cap, cur, rfl, _⟩
    · exact run_convert_bytes_nil w 60 5 Tryz.underlying60 Tryz.underlying5 0 0 9 Tryz.underlying9
    · exact run_convert_bytes_back (P := Tryz.prog) w 60 9 5 ⟨g, 0, none⟩ cap [] Tryz.underlying60 Tryz.underlying5 Tryz.underlying9 (fun j hj => by simp at hj)
  · obtain ⟨g, cap, rfl, _, _, hc⟩ := h.form (by simpa using h0)
    rw [cu8_len]
    exact run_convert_bytes_back (P := Tryz.prog) w 60 9 5 ⟨g, 0, none⟩ cap l Tryz.underlying60 Tryz.underlying5 Tryz.underlying9 (fun j hj => by
      have ea : (⟨g, 0, none⟩ : Addr).add j = ⟨g, j, none⟩ := by unfold Addr.add; split <;> simp_all
      rw [ea]
      exact hc j _ (by simp [cu8, hj]))

end Go.Proofs.YtgfknlkpdiejgaaGreatDoor

namespace Go.Proofs.YtgfknlkpdiejgaaGreatDoor
open Go.RowKit

/-- At place i the scene in memory tells what the reference's scene tells. -/
def Tells (s' : ByteArray) (m : List UInt8) (s : ByteArray) (c e : Int) (t : Bool) (i : Int) : Prop :=
  sMark m i = srMarks s c e t i ∧ sBegin m i = srB s c e t i ∧ sEnd m i = srE s c e t i ∧
  ((srByte s t i = -1 ∧ sHas s' i = false ∧ sByte s' i = 0) ∨ ∃ x : UInt8, srByte s t i = x.toNat ∧ sHas s' i = true ∧ sByte s' i = x.toNat)

end Go.Proofs.YtgfknlkpdiejgaaGreatDoor

namespace Go.Proofs.YtgfknlkpdiejgaaGreatDoor
open Go.RowKit

theorem byte10 (b : UInt8) : ((b.toNat : Int) == 10) = (b == 10) := by
  rw [Bool.eq_iff_iff, beq_iff_eq, beq_iff_eq, ← UInt8.toNat_inj]
  show _ ↔ b.toNat = 10
  omega
theorem mB_sr (s : ByteArray) (c e : Int) (i : Nat) (h : i ≤ s.size) : srBegin s c e i = mB s c e s.size i := by
  unfold srBegin mB bq
  by_cases h0 : i = 0
  · subst h0; simp; rfl
  · rw [if_neg (by omega), if_pos ⟨by omega, by omega⟩]
    have e1 : (i == 0) = false := by rw [beq_eq_false_iff_ne]; exact h0
    have e2 : decide (0 < i ∧ i ≤ s.size) = true := by simp; omega
    rw [e1, e2, byte10, Int.toNat_natCast]
    simp [bne]
theorem mE_sr (s : ByteArray) (c e : Int) (i : Nat) (h : i ≤ s.size) : srEnd s c e i = mE s c e s.size i := by
  unfold srEnd mE bq
  by_cases h0 : i = s.size
  · subst h0; simp [bne]
  · rw [if_neg (by omega), if_pos ⟨by omega, by omega⟩]
    have e1 : (i == s.size) = false := by rw [beq_eq_false_iff_ne]; exact h0
    have e2 : decide (i < s.size) = true := by simp; omega
    rw [e1, e2, byte10, Int.toNat_natCast]
    simp [bne]

theorem bits1 (b e : Bool) : (bits .and .i64 ((mk b e).toNat : Int) 1 != 0) = b := by cases b <;> cases e <;> decide
theorem bits2 (b e : Bool) : (bits .and .i64 ((mk b e).toNat : Int) 2 != 0) = e := by cases b <;> cases e <;> decide
theorem mk_nat (b e : Bool) : ((mk b e).toNat : Int) = (if b then 1 else 0) + (if e then 2 else 0) := by cases b <;> cases e <;> decide

/-- What is at each place of the marks decides all. -/
theorem marks_tell (m : List UInt8) (s : ByteArray) (c e : Int) (t : Bool) (hm : m.length = s.size + 1)
    (h : ∀ k : Nat, k ≤ s.size → m.getD k 0 = mk (srB s c e t k) (srE s c e t k)) (i : Int) :
    sMark m i = srMarks s c e t i ∧ sBegin m i = srB s c e t i ∧ sEnd m i = srE s c e t i := by
  by_cases hi : 0 ≤ i ∧ i ≤ s.size
  · obtain ⟨k, rfl⟩ := Int.eq_ofNat_of_zero_le hi.1
    have hk : k ≤ s.size := by omega
    have e1 : sMark m k = ((mk (srB s c e t k) (srE s c e t k)).toNat : Int) := by
      unfold sMark
      rw [if_pos ⟨by omega, by omega⟩, Int.toNat_natCast, h k hk]
    refine ⟨by rw [e1, mk_nat]; rfl, ?_, ?_⟩
    · unfold sBegin; rw [e1]; exact bits1 _ _
    · unfold sEnd; rw [e1]; exact bits2 _ _
  · have hin : srIn s i = false := by unfold srIn; simpa using hi
    have eB : srB s c e t i = false := by unfold srB; rw [hin]; rfl
    have eE : srE s c e t i = false := by unfold srE; rw [hin]; rfl
    have e1 : sMark m i = 0 := by unfold sMark; rw [if_neg (by omega)]
    refine ⟨by rw [e1]; unfold srMarks; rw [eB, eE]; rfl, ?_, ?_⟩
    · unfold sBegin; rw [e1, eB]; decide
    · unfold sEnd; rw [e1, eE]; decide

theorem srIn_nat (s : ByteArray) (k : Nat) (h : k ≤ s.size) : srIn s k = true := by unfold srIn; simp; omega

theorem new_marks (s : ByteArray) (c e : Int) (k : Nat) (h : k ≤ s.size) : (mkAt s c e s.size).getD k 0 = mk (srB s c e false k) (srE s c e false k) := by
  rw [mkAt_get _ _ _ _ _ (by omega)]
  unfold srB srE
  rw [srIn_nat s k h]
  simp only [↓reduceIte, Bool.false_eq_true]
  rw [mB_sr s c e k h, mE_sr s c e k h]

theorem turn_get (m : List UInt8) (n k : Nat) (hm : m.length = n + 1) (h : k ≤ n) : (turnM m).getD k 0 = swp (m.getD (n - k) 0) := by
  unfold turnM
  rw [List.getD_eq_getElem?_getD, List.getD_eq_getElem?_getD, List.getElem?_reverse (by simp; omega)]
  simp only [List.length_map, List.getElem?_map]
  have : m.length - 1 - k = n - k := by omega
  rw [this, List.getElem?_eq_getElem (show n - k < m.length by omega)]
  rfl

theorem turn_marks (s : ByteArray) (c e : Int) (k : Nat) (h : k ≤ s.size) : (turnM (mkAt s c e s.size)).getD k 0 = mk (srB s c e true k) (srE s c e true k) := by
  rw [turn_get _ s.size k (by simp) h, new_marks s c e _ (by omega), swp_mk]
  unfold srB srE
  rw [srIn_nat s k h, srIn_nat s _ (show s.size - k ≤ s.size by omega)]
  simp only [↓reduceIte, Bool.false_eq_true]
  have : ((s.size - k : Nat) : Int) = (s.size : Int) - k := by omega
  rw [this]

theorem turnM_turnM (s : ByteArray) (c e : Int) : turnM (turnM (mkAt s c e s.size)) = mkAt s c e s.size := by
  unfold turnM
  rw [List.map_reverse, List.reverse_reverse, List.map_map]
  unfold mkAt
  rw [List.map_map]
  apply List.map_congr_left
  intro i _
  simp only [Function.comp, swp_mk]
theorem turnS_turnS (s : ByteArray) : turnS (turnS s) = s := by
  unfold turnS
  simp

theorem srText_false (s : ByteArray) : s = srText s false := by
  unfold srText tbs
  have : (List.range s.size).map (tb s false) = s.data.toList := by
    apply List.ext_getElem
    · simp
    · intro i a b
      simp only [List.getElem_map, List.getElem_range]
      unfold tb
      simp only [Bool.false_eq_true, ↓reduceIte]
      rw [List.getD_eq_getElem?_getD, List.getElem?_eq_getElem b]; rfl
  rw [this]
theorem srText_true (s : ByteArray) : turnS s = srText s true := by
  unfold srText tbs turnS
  have : (List.range s.size).map (tb s true) = s.data.toList.reverse := by
    apply List.ext_getElem
    · simp
    · intro i a b
      simp only [List.getElem_map, List.getElem_range]
      unfold tb
      simp only [↓reduceIte]
      have hl : s.data.toList.length = s.size := by simp
      have hi : i < s.size := by simpa using a
      rw [List.getElem_reverse, List.getD_eq_getElem?_getD, List.getElem?_eq_getElem (by omega)]
      simp [hl]
  rw [this]

theorem bytes_tell (s : ByteArray) (t : Bool) (i : Int) :
    (srByte s t i = -1 ∧ sHas (srText s t) i = false ∧ sByte (srText s t) i = 0) ∨ ∃ x : UInt8, srByte s t i = x.toNat ∧ sHas (srText s t) i = true ∧ sByte (srText s t) i = x.toNat := by
  have hsz : (srText s t).size = s.size := by unfold srText tbs; show (List.toArray _).size = _; simp
  by_cases hi : 0 ≤ i ∧ i < s.size
  · obtain ⟨k, rfl⟩ := Int.eq_ofNat_of_zero_le hi.1
    have hk : k < s.size := by omega
    refine .inr ⟨tb s t k, srByte_tb s t k hk, by unfold sHas; rw [hsz]; simpa using hk, ?_⟩
    unfold sByte
    rw [hsz, if_pos hi, Int.toNat_natCast]
    congr 1
    unfold srText tbs
    simp [List.getD_eq_getElem?_getD, hk]
  · refine .inl ⟨by unfold srByte; rw [if_neg hi], by unfold sHas; rw [hsz]; simpa using hi, by unfold sByte; rw [hsz, if_neg hi]⟩

theorem new_tells (s : ByteArray) (c e i : Int) : Tells s (mkAt s c e s.size) s c e false i := by
  have h := marks_tell (mkAt s c e s.size) s c e false (by simp) (new_marks s c e) i
  have h2 := bytes_tell s false i
  rw [← srText_false] at h2
  exact ⟨h.1, h.2.1, h.2.2, h2⟩
theorem turn_tells (s : ByteArray) (c e i : Int) : Tells (turnS s) (turnM (mkAt s c e s.size)) s c e true i := by
  have h := marks_tell (turnM (mkAt s c e s.size)) s c e true (by simp) (turn_marks s c e) i
  have h2 := bytes_tell s true i
  rw [← srText_true] at h2
  exact ⟨h.1, h.2.1, h.2.2, h2⟩

end Go.Proofs.YtgfknlkpdiejgaaGreatDoor

namespace Go.Proofs.YtgfknlkpdiejgaaGreatDoor
open Go Go.RowKit

/-- What stands below a node in form. -/
theorem form_cases {h : Hd} {subs : List Nd} (hf : formB (.mk h subs) = true) :
    (h.kind = 1 ∧ subs.length = 0) ∨ (h.kind = 2 ∧ subs.length = 0) ∨ (h.kind = 3 ∧ subs.length = 0) ∨ (h.kind = 4 ∧ subs.length = 0) ∨ (h.kind = 5 ∧ 1 < subs.length) ∨ (h.kind = 6 ∧ 1 < subs.length) ∨
      (h.kind = 7 ∧ subs.length = 1 ∧ 0 < h.num ∧ h.num ≤ 999) ∨ (h.kind = 8 ∧ subs.length = 1 ∧ 0 ≤ h.min ∧ h.min ≤ 255 ∧ -1 ≤ h.max ∧ h.max ≤ 255) := by
  rw [formB, Bool.and_eq_true] at hf
  have h1 := hf.1
  unfold formedB at h1
  split at h1
  · rename_i hk
    simp only [Bool.and_eq_true, decide_eq_true_eq] at h1
    omega
  · split at h1
    · rename_i hk
      simp only [Bool.and_eq_true, decide_eq_true_eq] at h1
      omega
    · split at h1
      · rename_i hk
        simp only [Bool.and_eq_true, decide_eq_true_eq] at h1
        omega
      · split at h1
        · rename_i hk
          simp only [Bool.and_eq_true, decide_eq_true_eq] at h1
          omega
        · split at h1
          · rename_i hk
            simp only [Bool.and_eq_true, Bool.or_eq_true, decide_eq_true_eq] at h1
            omega
          · cases h1
theorem formL_memb : ∀ {l : List Nd}, formL l = true → ∀ n ∈ l, formB n = true
  | [], _, n, hn => by cases hn
  | a :: r, h, n, hn => by
    rw [formL, Bool.and_eq_true] at h
    rcases List.mem_cons.1 hn with rfl | hn
    · exact h.1
    · exact formL_memb h.2 n hn
theorem form_sub {h : Hd} {subs : List Nd} (hf : formB (.mk h subs) = true) : ∀ n ∈ subs, formB n = true := by
  rw [formB, Bool.and_eq_true] at hf
  exact formL_memb hf.2

/-- What a leaf takes. -/
def leafB (s : ByteArray) (c e : Int) (h : Hd) (a b : Int) : Bool :=
  if h.kind = 3 then decide (a = b) && srB s c e false a
  else if h.kind = 4 then decide (a = b) && srE s c e false a
  else if h.kind = 2 then decide (a < s.size) && decide (b = a + 1) && h.set (s.data.toList.getD a.toNat 0).toNat
  else decide (a = b)
def guardP (sz : Int) (kind : Int) (d : Pd) : Bool := decide (0 ≤ d.a) && decide (d.a ≤ d.b) && decide (d.b ≤ sz) && (decide (d.k = 0) || decide (kind = 6))
/-- Is none empty? -/
def fullL (l : List Ps) : Bool := l.all fun p => decide (p.d.a ≠ p.d.b)
def admB (h : Hd) (d : Pd) (ps : List Ps) : Bool :=
  decide (h.min ≤ ps.length) && (decide (h.max < 0) || decide (ps.length ≤ h.max)) && (if h.min = 0 ∧ ps.length = 1 ∧ d.a = d.b then !h.bare else fullL (ps.drop h.min.toNat))
def okB (h : Hd) (len : Nat) (d : Pd) (ps : List Ps) : Bool :=
  if h.kind = 6 then decide (ps.length = 1 ∧ 0 ≤ d.k ∧ d.k < len) else if h.kind = 7 then decide (ps.length = 1) else if h.kind = 5 then decide (ps.length = len) else admB h d ps
instance ndInh : Inhabited Nd := ⟨.mk ⟨0, fun _ => false, 0, 0, 0, false⟩ []⟩
def ndsOf (h : Hd) (subs : List Nd) (d : Pd) (n : Nat) : List Nd :=
  if h.kind = 6 then [subs.getD d.k.toNat ndInh.default] else if h.kind = 8 then List.replicate n (subs.getD 0 ndInh.default) else subs
mutual
def parseN (sz : Int) (L : Hd → Int → Int → Bool) : Ps → Nd → Bool
  | .mk d ps, .mk h subs => guardP sz h.kind d && (if 5 ≤ h.kind then okB h subs.length d ps && rowN sz L ps (ndsOf h subs d ps.length) d.a d.b else decide (ps.length = 0) && L h d.a d.b)
def rowN (sz : Int) (L : Hd → Int → Int → Bool) : List Ps → List Nd → Int → Int → Bool
  | [], _, a, b => decide (a = b)
  | _ :: _, [], _, _ => false
  | p :: r, n :: nr, a, b => decide (p.d.a = a) && parseN sz L p n && rowN sz L r nr p.d.b b
end
section
variable {sz : Int} {L : Hd → Int → Int → Bool}
theorem rowN_step {ps : List Ps} {nds : List Nd} {k : Nat} (h : k < ps.length) (h' : k < nds.length) (a b : Int) :
    rowN sz L (ps.drop k) (nds.drop k) a b = (decide (ps[k].d.a = a) && parseN sz L ps[k] nds[k] && rowN sz L (ps.drop (k + 1)) (nds.drop (k + 1)) ps[k].d.b b) := by
  rw [List.drop_eq_getElem_cons h, List.drop_eq_getElem_cons h', rowN]
theorem rowN_done {ps : List Ps} {nds : List Nd} {k : Nat} (h : ps.length ≤ k) (a b : Int) : rowN sz L (ps.drop k) (nds.drop k) a b = decide (a = b) := by
  rw [List.drop_eq_nil_of_le h, rowN]
theorem rowN_one (p : Ps) (n : Nd) (a b : Int) : rowN sz L [p] [n] a b = (decide (p.d.a = a) && parseN sz L p n && decide (p.d.b = b)) := by rw [rowN, rowN]
theorem len_one {α : Type} {l : List α} (h : l.length = 1) : ∃ x, l = [x] := by
  match l, h with
  | [x], _ => exact ⟨x, rfl⟩
end

end Go.Proofs.YtgfknlkpdiejgaaGreatDoor
