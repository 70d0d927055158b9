/- The reference's text of a scene as a contract: the subject, or its bytes from the end. Subjects of at most a million bytes. -/
import Derived.Test.YthddlhpndaffjaaDoorSceneTurn
namespace Go.Proofs.YthddlhpndaffjaaDoor
open Go.RowKit

/-- The byte at place k. -/
def tb (s : ByteArray) (t : Bool) (k : Nat) : UInt8 := if t then s.data.toList.getD (s.size - 1 - k) 0 else s.data.toList.getD k 0
def tbs (s : ByteArray) (t : Bool) (k : Nat) : List UInt8 := (List.range k).map (tb s t)
def srText (s : ByteArray) (t : Bool) : ByteArray := ⟨(tbs s t s.size).toArray⟩
theorem tbs_succ (s : ByteArray) (t : Bool) (k : Nat) : tbs s t (k + 1) = tbs s t k ++ [tb s t k] := by simp [tbs, List.range_succ]
theorem srByte_tb (s : ByteArray) (t : Bool) (k : Nat) (h : k < s.size) : srByte s t k = ((tb s t k).toNat : Int) := by
  unfold srByte tb
  rw [if_pos ⟨by omega, by omega⟩]
  simp only [Int.toNat_natCast]
  split <;> rfl

def cu8 (l : List UInt8) : List Value := l.map fun b => Value.int .u8 b.toNat
@[simp] theorem cu8_len (l : List UInt8) : (cu8 l).length = l.length := by simp [cu8]

/-- 'string(b)', b a slice that the call itself made. -/
theorem run_string_own {B : Nat} {v : Value} {l : List UInt8} {w : World} (h : Own1 w B 5 v (cu8 l)) :
    (convert 43 9 v).run Tryd.prog w = .ok (.string ⟨l.toArray⟩) w := by
  rcases Nat.eq_zero_or_pos l.length with h0 | h0
  · have : l = [] := List.eq_nil_of_length_eq_zero h0
    subst this
    rcases h.2 with ⟨rfl, _⟩ | ⟨g, cap, cur, rfl, _⟩
    · exact run_convert_bytes_nil w 43 5 Tryd.underlying43 Tryd.underlying5 0 0 9 Tryd.underlying9
    · exact run_convert_bytes_back (P := Tryd.prog) w 43 9 5 ⟨g, 0, none⟩ cap [] Tryd.underlying43 Tryd.underlying5 Tryd.underlying9 (fun j hj => by simp at hj)
  · obtain ⟨g, cap, rfl, _, _, hc⟩ := h.form (by simpa using h0)
    rw [cu8_len]
    exact run_convert_bytes_back (P := Tryd.prog) w 43 9 5 ⟨g, 0, none⟩ cap l Tryd.underlying43 Tryd.underlying5 Tryd.underlying9 (fun j hj => by
      have ea : (⟨g, 0, none⟩ : Addr).add j = ⟨g, j, none⟩ := by unfold Addr.add; split <;> simp_all
      rw [ea]
      exact hc j _ (by simp [cu8, hj]))

end Go.Proofs.YthddlhpndaffjaaDoor
