/- A list of trees in memory, each in blocks of its own, as a list: one of them turned. No program. -/
import Derived.Test.YthddlhpndaffjaaDoorNodeW
namespace Go.Proofs.YthddlhpndaffjaaDoor
open Go Go.RowKit

structure KidsAt (W : World) (g : Nat) (l : List Kid) : Prop where
  at_ : ∀ j x, l[j]? = some x → NdAt W g (j * 10) x.1.h x.2.1
  kid : ∀ x ∈ l, NdFp W x.1 x.2.1 x.2.2
  blk : ∃ t cur, Blk W g t cur
theorem ndsFp_kids {W : World} {g : Nat} : ∀ (subs : List Nd) (k : Nat) (fps : List Nat), NdsFp W subs g k fps →
    ∃ l : List Kid, subs = l.map (·.1) ∧ fps = kidsFp l ∧ (∀ j x, l[j]? = some x → NdAt W g ((k + j) * 10) x.1.h x.2.1) ∧ ∀ x ∈ l, NdFp W x.1 x.2.1 x.2.2
  | [], k, fps, h => by
    unfold NdsFp at h
    exact ⟨[], rfl, h, (fun j x hj => by simp at hj), (fun x hx => by cases hx)⟩
  | n :: r, k, fps, h => by
    unfold NdsFp at h
    obtain ⟨f1, f2, sv, rfl, h1, h2, h3⟩ := h
    obtain ⟨l, rfl, rfl, h4, h5⟩ := ndsFp_kids r (k + 1) f2 h3
    refine ⟨(n, sv, f1) :: l, rfl, rfl, fun j x hj => ?_, fun x hx => ?_⟩
    · cases j with
      | zero =>
        simp only [List.getElem?_cons_zero, Option.some.injEq] at hj
        subst hj
        exact h1
      | succ j =>
        rw [show k + (j + 1) = k + 1 + j by omega]
        exact h4 j x (by simpa using hj)
    · rcases List.mem_cons.1 hx with rfl | hx
      · exact h2
      · exact h5 x hx
theorem NdFp.kids {W : World} {h : Hd} {subs : List Nd} {sv : Value} {fp : List Nat} (hn : NdFp W (.mk h subs) sv fp) (hne : subs ≠ []) :
    ∃ g c l, sv = .slice (some ⟨g, 0, none⟩) subs.length c ∧ fp = g :: kidsFp l ∧ subs = l.map (·.1) ∧ KidsAt W g l := by
  unfold NdFp at hn
  rcases hn with ⟨h0, _⟩ | ⟨g, c, fps, rfl, rfl, hb, hs⟩
  · exact absurd h0 hne
  · obtain ⟨l, rfl, rfl, h1, h2⟩ := ndsFp_kids _ _ _ hs
    exact ⟨g, c, l, rfl, rfl, rfl, fun j x hj => by have := h1 j x hj; rwa [Nat.zero_add] at this, h2, hb⟩
theorem KidsAt.node {W : World} {g c : Nat} {l : List Kid} (hk : KidsAt W g l) (h : Hd) : NdFp W (.mk h (l.map (·.1))) (.slice (some ⟨g, 0, none⟩) l.length c) (g :: kidsFp l) := by
  unfold NdFp
  refine .inr ⟨g, c, kidsFp l, by simp, rfl, hk.blk, ndsFp_of l 0 (fun j x hj i hi => ?_) hk.kid⟩
  rw [Nat.zero_add]
  exact hk.at_ j x hj i hi
theorem kids_disj : ∀ {l : List Kid}, (kidsFp l).Nodup → ∀ {j k : Nat} {x y : Kid}, j ≠ k → l[j]? = some x → l[k]? = some y → ∀ b ∈ x.2.2, b ∉ y.2.2
  | [], _, j, k, x, y, _, hj, _ => by simp at hj
  | a :: l, hn, j, k, x, y, hne, hj, hk => by
    have hn' : (a.2.2 ++ kidsFp l).Nodup := hn
    rw [List.nodup_append] at hn'
    have hmem : ∀ {i : Nat} {z : Kid}, l[i]? = some z → ∀ b ∈ z.2.2, b ∈ kidsFp l := fun hi b hb => List.mem_flatMap.2 ⟨_, List.mem_of_getElem? hi, hb⟩
    cases j with
    | zero =>
      cases k with
      | zero => exact absurd rfl hne
      | succ k =>
        simp only [List.getElem?_cons_zero, Option.some.injEq] at hj
        subst hj
        exact fun b hb hb2 => hn'.2.2 b hb b (hmem (by simpa using hk) b hb2) rfl
    | succ j =>
      cases k with
      | zero =>
        simp only [List.getElem?_cons_zero, Option.some.injEq] at hk
        subst hk
        exact fun b hb hb2 => hn'.2.2 b hb2 b (hmem (by simpa using hj) b hb) rfl
      | succ k => exact kids_disj (j := j) (k := k) hn'.2.1 (fun e => hne (by rw [e])) (by simpa using hj) (by simpa using hk)
/-- One of them turned, in a world that keeps all else. -/
theorem KidsAt.turn {W W' : World} {F : Nat → Prop} {g k : Nat} {l : List Kid} {n n' : Nd} {sv : Value} {f : List Nat} (h : KidsAt W g l) (hk : l[k]? = some (n, sv, f)) (hF : Keeps F W W') (hg : ¬ F g)
    (hlt : ∀ b ∈ kidsFp l, b < W.heap.size) (hoth : ∀ j x, j ≠ k → l[j]? = some x → ∀ b ∈ x.2.2, ¬ F b) (hn : NdFp W' n' sv f) (hh : n'.h = n.h) : KidsAt W' g (l.set k (n', sv, f)) := by
  have hkl : k < l.length := (List.getElem?_eq_some_iff.1 hk).1
  have hmem : ∀ {i : Nat} {z : Kid}, l[i]? = some z → ∀ b ∈ z.2.2, b ∈ kidsFp l := fun hi b hb => List.mem_flatMap.2 ⟨_, List.mem_of_getElem? hi, hb⟩
  refine ⟨fun j x hj => ?_, fun x hx => ?_, ?_⟩
  · by_cases hjk : j = k
    · subst hjk
      rw [List.getElem?_set_self hkl, Option.some.injEq] at hj
      subst hj
      have := (h.at_ j _ hk).keeps hF hg
      simpa [hh] using this
    · rw [List.getElem?_set_ne (fun e => hjk e.symm)] at hj
      exact (h.at_ j x hj).keeps hF hg
  · obtain ⟨j, hj⟩ := List.getElem?_of_mem hx
    by_cases hjk : j = k
    · subst hjk
      rw [List.getElem?_set_self hkl, Option.some.injEq] at hj
      subst hj
      exact hn
    · rw [List.getElem?_set_ne (fun e => hjk e.symm)] at hj
      exact (h.kid x (List.mem_of_getElem? hj)).keep fun b hb => hF.block b (hlt b (hmem hj b hb)) (hoth j x hjk hj b hb)
  · obtain ⟨t, cur, hb⟩ := h.blk
    exact ⟨t, cur, hb.keeps hF hg⟩
/-- The number in one's head turned. -/
theorem KidsAt.num {W : World} {g k : Nat} {l : List Kid} {hd : Hd} {s : List Nd} {sv : Value} {f : List Nat} (h : KidsAt W g l) (hk : l[k]? = some (.mk hd s, sv, f)) (hg : g ∉ kidsFp l) (m : Int) :
    KidsAt (W.setCell ⟨g, k * 10 + 6, none⟩ (.int .i64 m)) g (l.set k (.mk { hd with num := m } s, sv, f)) := by
  have hkl : k < l.length := (List.getElem?_eq_some_iff.1 hk).1
  have hmem : ∀ {i : Nat} {z : Kid}, l[i]? = some z → ∀ b ∈ z.2.2, b ∈ kidsFp l := fun hi b hb => List.mem_flatMap.2 ⟨_, List.mem_of_getElem? hi, hb⟩
  obtain ⟨t, cur, hb⟩ := h.blk
  have far : ∀ b ∈ kidsFp l, SameAt W (W.setCell ⟨g, k * 10 + 6, none⟩ (.int .i64 m)) b := fun b hb => Below.heap_setCell W _ _ b (fun e => hg (by simpa [e] using hb))
  refine ⟨fun j x hj => ?_, fun x hx => ?_, ⟨t, _, hb.set _ _⟩⟩
  · have cellOf : ∀ i, (W.setCell ⟨g, k * 10 + 6, none⟩ (.int .i64 m)).cell? ⟨g, i, none⟩ = if k * 10 + 6 = i ∧ i < cur.size then some (.int .i64 m) else W.cell? ⟨g, i, none⟩ := fun i => by
      rw [(hb.set (k * 10 + 6) (.int .i64 m)).cell, hb.cell, Array.getElem?_setIfInBounds]
      by_cases h1 : k * 10 + 6 = i
      · subst h1
        by_cases h2 : k * 10 + 6 < cur.size
        · rw [if_pos rfl, if_pos h2, if_pos ⟨rfl, h2⟩]
        · rw [if_pos rfl, if_neg h2, if_neg (fun hc => h2 hc.2), Array.getElem?_eq_none (by omega)]
      · rw [if_neg h1, if_neg (fun hc => h1 hc.1)]
    by_cases hjk : j = k
    · subst hjk
      rw [List.getElem?_set_self hkl, Option.some.injEq] at hj
      subst hj
      intro i hi
      have h6 := h.at_ j _ hk i hi
      rw [cellOf]
      by_cases hi6 : i = 6
      · subst hi6
        have hsz : j * 10 + 6 < cur.size := by
          rw [hb.cell] at h6
          exact (Array.getElem?_eq_some_iff.1 h6).1
        rw [if_pos ⟨rfl, hsz⟩]
        rfl
      · rw [if_neg (by omega), h6]
        rcases (show i = 0 ∨ i = 1 ∨ i = 2 ∨ i = 3 ∨ i = 4 ∨ i = 5 ∨ i = 7 ∨ i = 8 ∨ i = 9 from by omega) with rfl | rfl | rfl | rfl | rfl | rfl | rfl | rfl | rfl <;> rfl
    · rw [List.getElem?_set_ne (fun e => hjk e.symm)] at hj
      intro i hi
      rw [cellOf, if_neg (by omega)]
      exact h.at_ j x hj i hi
  · obtain ⟨j, hj⟩ := List.getElem?_of_mem hx
    by_cases hjk : j = k
    · subst hjk
      rw [List.getElem?_set_self hkl, Option.some.injEq] at hj
      subst hj
      have := (h.kid _ (List.mem_of_getElem? hk)).keep fun b hb => far b (hmem hk b hb)
      unfold NdFp at this ⊢
      exact this
    · rw [List.getElem?_set_ne (fun e => hjk e.symm)] at hj
      exact (h.kid x (List.mem_of_getElem? hj)).keep fun b hb => far b (hmem hj b hb)
theorem kidsFp_set {l : List Kid} {k : Nat} {n n' : Nd} {sv : Value} {f : List Nat} (hk : l[k]? = some (n, sv, f)) : kidsFp (l.set k (n', sv, f)) = kidsFp l := by
  unfold kidsFp
  rw [List.flatMap_def, List.flatMap_def, List.map_set]
  congr 1
  refine List.ext_getElem? fun j => ?_
  rw [List.getElem?_set]
  by_cases h : k = j
  · subst h
    have hkl : k < l.length := (List.getElem?_eq_some_iff.1 hk).1
    rw [if_pos rfl, if_pos (by simpa using hkl), List.getElem?_map, hk]
    rfl
  · rw [if_neg h]

theorem kidsFp_snd {l l' : List Kid} (h : l.map (·.2) = l'.map (·.2)) : kidsFp l = kidsFp l' := by
  have e : ∀ l : List Kid, kidsFp l = (l.map (·.2)).flatMap (·.2) := fun l => by simp [kidsFp, List.flatMap_map]
  rw [e, e, h]
theorem kid_nodup {l : List Kid} (h : (kidsFp l).Nodup) {x : Kid} (hx : x ∈ l) : x.2.2.Nodup := by
  unfold kidsFp at h
  obtain ⟨a1, a2, rfl⟩ := List.append_of_mem hx
  rw [List.flatMap_append, List.flatMap_cons] at h
  exact (List.nodup_append.1 (List.nodup_append.1 h).2.1).1
theorem kid_sub {l : List Kid} {x : Kid} (hx : x ∈ l) : ∀ b ∈ x.2.2, b ∈ kidsFp l := fun _ hb => List.mem_flatMap.2 ⟨x, hx, hb⟩
/-- A world that keeps all blocks of the list. -/
theorem KidsAt.keeps {W W' : World} {F : Nat → Prop} {g : Nat} {l : List Kid} (h : KidsAt W g l) (hF : Keeps F W W') (hg : ¬ F g) (hlt : ∀ b ∈ kidsFp l, b < W.heap.size ∧ ¬ F b) : KidsAt W' g l := by
  refine ⟨fun j x hj => (h.at_ j x hj).keeps hF hg, fun x hm => (h.kid x hm).keep fun y hy => ?_, ?_⟩
  · have := hlt y (kid_sub hm y hy)
    exact hF.block y this.1 this.2
  · obtain ⟨t, cur, hb⟩ := h.blk
    exact ⟨t, cur, hb.keeps hF hg⟩

end Go.Proofs.YthddlhpndaffjaaDoor
