/- How the spans of groups lie in one another, in plain words: a group's span lies within that of the group around it, each within the whole. No program. A region that draws its order: each operation leaves a value of which something is known that lasts as long as the world only grows; the last operation may write. No condition. A region that draws its order and in whose midst an operation writes: what that one waits for is taken first; the others after it come one behind the other. No condition. trawllaw12.within as a contract: which numbers are there, which pairs. Condition: the tree lies in memory, it is in form. -/
import Derived.Test.YthddlhpndaffjaaDoorSpans
import Derived.Test.YthddlhpndaffjaaDoorLib
import Derived.StillTailTactics
import Derived.OrdersHeld
import Derived.Test.YthddlhpndaffjaaDoorNum
namespace Go.Proofs.YthddlhpndaffjaaDoor
open Go Go.RowKit

/-! ### the numbers of groups; which group stands right below which -/
mutual
def gnN : Nd → List Int
  | .mk h subs => (if h.kind = 7 then [h.num] else []) ++ gnL subs
def gnL : List Nd → List Int
  | [] => []
  | n :: r => gnN n ++ gnL r
end
mutual
def prN : Int → Nd → List (Int × Int)
  | ab, .mk h subs => (if h.kind = 7 ∧ 0 < ab then [(ab, h.num)] else []) ++ prL (if h.kind = 7 then h.num else ab) subs
def prL : Int → List Nd → List (Int × Int)
  | _, [] => []
  | ab, n :: r => prN ab n ++ prL ab r
end
theorem gnL_mem : ∀ (l : List Nd) (x : Int), x ∈ gnL l ↔ ∃ n ∈ l, x ∈ gnN n
  | [], x => by rw [gnL]; simp
  | n :: r, x => by
    rw [gnL, List.mem_append, gnL_mem r x]
    simp
theorem prL_mem : ∀ (ab : Int) (l : List Nd) (q : Int × Int), q ∈ prL ab l ↔ ∃ n ∈ l, q ∈ prN ab n
  | ab, [], q => by rw [prL]; simp
  | ab, n :: r, q => by
    rw [prL, List.mem_append, prL_mem ab r q]
    simp
theorem gn_pos : ∀ (n : Nd), formB n = true → ∀ x ∈ gnN n, 0 < x ∧ x ≤ 999 := by
  refine Nd.ind fun h subs ih hf x hx => ?_
  have hcase := form_cases hf
  rw [gnN, List.mem_append] at hx
  rcases hx with hx | hx
  · by_cases t : h.kind = 7
    · rw [if_pos t, List.mem_singleton] at hx
      omega
    · rw [if_neg t] at hx
      cases hx
  · obtain ⟨m, hm, hx⟩ := (gnL_mem subs x).1 hx
    exact ih m hm (form_sub hf m hm) x hx
/-- A pair of a tree below a group: a pair of the tree alone, or the group above and one of the tree. -/
theorem pr_split : ∀ (n : Nd) (ab : Int) (q : Int × Int), q ∈ prN ab n → q ∈ prN 0 n ∨ (q.1 = ab ∧ q.2 ∈ gnN n) := by
  refine Nd.ind fun h subs ih ab q hq => ?_
  rw [prN, List.mem_append] at hq
  rw [prN, gnN, List.mem_append, List.mem_append]
  by_cases t : h.kind = 7
  · rw [if_pos t] at hq ⊢
    rw [if_pos t]
    rcases hq with hq | hq
    · by_cases t2 : 0 < ab
      · rw [if_pos ⟨t, t2⟩, List.mem_singleton] at hq
        subst hq
        exact .inr ⟨rfl, .inl (by simp)⟩
      · rw [if_neg (fun h => t2 h.2)] at hq
        cases hq
    · exact .inl (.inr hq)
  · rw [if_neg t] at hq ⊢
    rcases hq with hq | hq
    · rw [if_neg (fun h => t h.1)] at hq
      cases hq
    · obtain ⟨n, hn, hq⟩ := (prL_mem ab subs q).1 hq
      rcases ih n hn ab q hq with h1 | ⟨h1, h2⟩
      · exact .inl (.inr ((prL_mem 0 subs q).2 ⟨n, hn, h1⟩))
      · exact .inr ⟨h1, .inr ((gnL_mem subs _).2 ⟨n, hn, h2⟩)⟩
theorem pr_mem : ∀ (n : Nd) (ab : Int) (q : Int × Int), q ∈ prN ab n → (q.1 = ab ∨ q.1 ∈ gnN n) ∧ q.2 ∈ gnN n := by
  refine Nd.ind fun h subs ih ab q hq => ?_
  rw [prN, List.mem_append] at hq
  rw [gnN, List.mem_append, List.mem_append]
  rcases hq with hq | hq
  · by_cases t : h.kind = 7 ∧ 0 < ab
    · rw [if_pos t, List.mem_singleton] at hq
      subst hq
      exact ⟨.inl rfl, .inl (by rw [if_pos t.1]; simp)⟩
    · rw [if_neg t] at hq
      cases hq
  · obtain ⟨n, hn, hq⟩ := (prL_mem _ subs q).1 hq
    obtain ⟨h1, h2⟩ := ih n hn _ q hq
    refine ⟨?_, .inr ((gnL_mem subs _).2 ⟨n, hn, h2⟩)⟩
    rcases h1 with h1 | h1
    · by_cases t : h.kind = 7
      · rw [if_pos t] at h1 ⊢
        exact .inr (.inl (by simp [h1]))
      · rw [if_neg t] at h1
        exact .inl h1
    · exact .inr (.inr ((gnL_mem subs _).2 ⟨n, hn, h1⟩))
theorem pr_mem0 (n : Nd) (hf : formB n = true) (q : Int × Int) (hq : q ∈ prN 0 n) : q.1 ∈ gnN n ∧ q.2 ∈ gnN n := by
  -- the first of a pair is never 0, for 0 is laid aside
  have key : ∀ (n : Nd) (ab : Int), formB n = true → ∀ q ∈ prN ab n, 0 < q.1 := by
    refine Nd.ind fun h subs ih ab hf q hq => ?_
    have hcase := form_cases hf
    rw [prN, List.mem_append] at hq
    rcases hq with hq | hq
    · by_cases t : h.kind = 7 ∧ 0 < ab
      · rw [if_pos t, List.mem_singleton] at hq
        subst hq
        exact t.2
      · rw [if_neg t] at hq
        cases hq
    · obtain ⟨n, hn, hq⟩ := (prL_mem _ subs q).1 hq
      exact ih n hn _ (form_sub hf n hn) q hq
  obtain ⟨h1, h2⟩ := pr_mem n 0 q hq
  have := key n 0 hf q hq
  exact ⟨h1.resolve_left (by omega), h2⟩
theorem gn_apart : ∀ (l : List Nd), (gnL l).Nodup → ∀ a ∈ l, ∀ b ∈ l, a ≠ b → ∀ x ∈ gnN a, x ∉ gnN b
  | [], _, a, ha, _, _, _, _, _ => by cases ha
  | n :: r, hd, a, ha, b, hb, hab, x, hx => by
    rw [gnL, List.nodup_append] at hd
    obtain ⟨_, h2, h3⟩ := hd
    rcases List.mem_cons.1 ha with rfl | ha'
    · rcases List.mem_cons.1 hb with rfl | hb'
      · exact absurd rfl hab
      · exact fun hxb => h3 x hx x ((gnL_mem r x).2 ⟨b, hb', hxb⟩) rfl
    · rcases List.mem_cons.1 hb with rfl | hb'
      · exact fun hxb => h3 x hxb x ((gnL_mem r x).2 ⟨a, ha', hx⟩) rfl
      · exact gn_apart r h2 a ha' b hb' hab x hx
theorem gn_sub : ∀ (l : List Nd), (gnL l).Nodup → ∀ a ∈ l, (gnN a).Nodup
  | [], _, a, ha => by cases ha
  | n :: r, hd, a, ha => by
    rw [gnL, List.nodup_append] at hd
    rcases List.mem_cons.1 ha with rfl | ha'
    · exact hd.1
    · exact gn_sub r hd.2.1 a ha'

/-! ### spans by number -/
def getS (l : List (Int × Int)) (x : Int) : Int × Int := l.getD x.toNat (-1, -1)
theorem getS_set {l : List (Int × Int)} {n y : Int} (v : Int × Int) (hn : 0 ≤ n) (hy : 0 ≤ y) (hne : n ≠ y) : getS (l.set n.toNat v) y = getS l y := by
  unfold getS
  rw [List.getD_eq_getElem?_getD, List.getD_eq_getElem?_getD, List.getElem?_set_ne (by omega)]
theorem getS_same {l : List (Int × Int)} {n : Int} (v : Int × Int) (hn : 0 ≤ n) (hl : n < l.length) : getS (l.set n.toNat v) n = v := by
  unfold getS
  rw [List.getD_eq_getElem?_getD, List.getElem?_set_self (by omega)]
  rfl
theorem unsetL_inv (Φ : List (Int × Int) → Prop) : ∀ (subs : List Nd) (l : List (Int × Int)), (∀ n ∈ subs, ∀ l, Φ l → Φ (unsetN n l)) → Φ l → Φ (unsetL subs l)
  | [], l, _, h0 => by rw [unsetL]; exact h0
  | n :: r, l, h, h0 => by
    rw [unsetL]
    exact unsetL_inv Φ r _ (fun m hm => h m (List.mem_cons_of_mem _ hm)) (h n (by simp) l h0)
theorem unset_other : ∀ (n : Nd), formB n = true → ∀ (y : Int), 0 ≤ y → y ∉ gnN n → ∀ l, getS (unsetN n l) y = getS l y := by
  refine Nd.ind fun h subs ih hf y hy hn l => ?_
  have hcase := form_cases hf
  rw [gnN, List.mem_append] at hn
  rw [unsetN]
  refine unsetL_inv (fun l' => getS l' y = getS l y) subs _ (fun n hm l' h' => ?_) ?_
  · rw [ih n hm (form_sub hf n hm) y hy (fun h2 => hn (.inr ((gnL_mem subs y).2 ⟨n, hm, h2⟩))) l', h']
  · split
    · rename_i t
      refine getS_set _ (by omega) hy (fun e => hn (.inl ?_))
      rw [if_pos t.1]
      simp [e]
    · rfl
theorem unset_stays : ∀ (n : Nd), formB n = true → ∀ (y : Int), 0 ≤ y → ∀ l, getS l y = (-1, -1) → getS (unsetN n l) y = (-1, -1) := by
  refine Nd.ind fun h subs ih hf y hy l hl => ?_
  have hcase := form_cases hf
  rw [unsetN]
  refine unsetL_inv (fun l' => getS l' y = (-1, -1)) subs _ (fun n hm l' h' => ih n hm (form_sub hf n hm) y hy l' h') ?_
  split
  · rename_i t
    by_cases e : h.num = y
    · subst e
      exact getS_same _ hy t.2
    · rw [getS_set _ (by omega) hy e]
      exact hl
  · exact hl
theorem unset_or (n : Nd) (hf : formB n = true) (y : Int) (hy : 0 ≤ y) (l : List (Int × Int)) : getS (unsetN n l) y = getS l y ∨ getS (unsetN n l) y = (-1, -1) := by
  revert hf l
  revert n
  refine Nd.ind fun h subs ih hf l => ?_
  have hcase := form_cases hf
  rw [unsetN]
  refine unsetL_inv (fun l' => getS l' y = getS l y ∨ getS l' y = (-1, -1)) subs _ (fun n hm l' h' => ?_) ?_
  · rcases ih n hm (form_sub hf n hm) l' with h1 | h1
    · rw [h1]; exact h'
    · exact .inr h1
  · split
    · rename_i t
      by_cases e : h.num = y
      · subst e
        exact .inr (getS_same _ hy t.2)
      · rw [getS_set _ (by omega) hy e]
        exact .inl rfl
    · exact .inl rfl
theorem unset_all : ∀ (n : Nd), formB n = true → ∀ (y : Int), y ∈ gnN n → ∀ (l : List (Int × Int)), l.length = 1000 → getS (unsetN n l) y = (-1, -1) := by
  refine Nd.ind fun h subs ih hf y hy l hl => ?_
  have hcase := form_cases hf
  have hpos := gn_pos _ hf y hy
  rw [gnN, List.mem_append] at hy
  rw [unsetN]
  obtain ⟨l1, h1⟩ : ∃ l1, l1 = (if h.kind = 7 ∧ h.num < l.length then l.set h.num.toNat (-1, -1) else l) := ⟨_, rfl⟩
  have hl1 : l1.length = 1000 := by rw [h1]; split <;> simp [hl]
  rw [← h1]
  rcases hy with hy | hy
  · by_cases t : h.kind = 7
    · rw [if_pos t, List.mem_singleton] at hy
      subst hy
      have h2 : getS l1 h.num = (-1, -1) := by
        rw [h1, if_pos ⟨t, by omega⟩]
        exact getS_same _ (by omega) (by omega)
      exact unsetL_inv (fun l' => getS l' h.num = (-1, -1)) subs _ (fun n hm l' h' => unset_stays n (form_sub hf n hm) _ (by omega) l' h') h2
    · rw [if_neg t] at hy
      cases hy
  · have key : ∀ (s : List Nd) (l' : List (Int × Int)), (∀ n ∈ s, n ∈ subs) → l'.length = 1000 → y ∈ gnL s → getS (unsetL s l') y = (-1, -1) := by
      intro s
      induction s with
      | nil => intro l' _ _ h2; rw [gnL] at h2; cases h2
      | cons n r ihr =>
        intro l' hs hl' h2
        rw [unsetL]
        rw [gnL, List.mem_append] at h2
        have hlen : (unsetN n l').length = 1000 := by rw [unsetN_len]; exact hl'
        by_cases h3 : y ∈ gnL r
        · exact ihr _ (fun m hm => hs m (List.mem_cons_of_mem _ hm)) hlen h3
        · have h4 := ih n (hs n (by simp)) (form_sub hf n (hs n (by simp))) y (h2.resolve_right h3) l' hl'
          exact unsetL_inv (fun l' => getS l' y = (-1, -1)) r _ (fun m hm l'' h' => unset_stays m (form_sub hf m (hs m (List.mem_cons_of_mem _ hm))) _ (by omega) l'' h') h4
    exact key subs l1 (fun _ hm => hm) hl1 hy

/-! ### a parse's walk -/
section
variable {sz : Int} {L : Hd → Int → Int → Bool}
theorem parse_in {p : Ps} {n : Nd} (hp : parseN sz L p n = true) : 0 ≤ p.d.a ∧ p.d.a ≤ p.d.b ∧ p.d.b ≤ sz := by
  obtain ⟨d, ps⟩ := p
  obtain ⟨h, subs⟩ := n
  rw [parseN, Bool.and_eq_true] at hp
  have := hp.1
  unfold guardP at this
  simp only [Bool.and_eq_true, decide_eq_true_eq] at this
  exact ⟨this.1.1.1, this.1.1.2, this.1.2⟩
theorem rowN_le : ∀ (ps : List Ps) (nds : List Nd) (a b : Int), rowN sz L ps nds a b = true → a ≤ b
  | [], _, a, b, h => by rw [rowN, decide_eq_true_eq] at h; omega
  | _ :: _, [], _, _, h => by rw [rowN] at h; cases h
  | p :: r, n :: nr, a, b, h => by
    rw [rowN, Bool.and_eq_true, Bool.and_eq_true, decide_eq_true_eq] at h
    have h1 := parse_in h.1.2
    have h2 := rowN_le r nr _ b h.2
    omega
theorem rowN_in : ∀ (ps : List Ps) (nds : List Nd) (a b : Int), rowN sz L ps nds a b = true → ∀ k (hk : k < ps.length), a ≤ ps[k].d.a ∧ ps[k].d.b ≤ b
  | [], _, _, _, _, k, hk => absurd hk (Nat.not_lt_zero _)
  | _ :: _, [], _, _, h, _, _ => by rw [rowN] at h; cases h
  | p :: r, n :: nr, a, b, h, k, hk => by
    rw [rowN, Bool.and_eq_true, Bool.and_eq_true, decide_eq_true_eq] at h
    have h1 := parse_in h.1.2
    have h2 := rowN_le r nr _ b h.2
    cases k with
    | zero => exact ⟨by simp; omega, by simpa using h2⟩
    | succ k =>
      have h3 := rowN_in r nr _ b h.2 k (by simpa using hk)
      simp only [List.getElem_cons_succ]
      omega
theorem walkR_inv (Φ : List (Int × Int) → Prop) : ∀ (ps : List Ps) (nds : List Nd) (l : List (Int × Int)), (∀ k (hk : k < ps.length) (hk' : k < nds.length) l, Φ l → Φ (walkN ps[k] nds[k] l)) → Φ l → Φ (walkR ps nds l)
  | [], _, l, _, h0 => by rw [walkR]; exact h0
  | _ :: _, [], l, _, h0 => by rw [walkR]; exact h0
  | p :: r, n :: nr, l, h, h0 => by
    rw [walkR]
    refine walkR_inv Φ r nr _ (fun k hk hk' l hl => ?_) (h 0 (by simp) (by simp) l h0)
    exact h (k + 1) (by simpa using hk) (by simpa using hk') l hl
/-- What a node with Subs has below it. -/
theorem nds_mem {h : Hd} {subs : List Nd} {d : Pd} {ps : List Ps} (hf : formB (.mk h subs) = true) (ho : okB h subs.length d ps = true) (k : Nat) (hk : k < (ndsOf h subs d ps.length).length) : (ndsOf h subs d ps.length)[k] ∈ subs := by
  have hcase := form_cases hf
  have hmem : (ndsOf h subs d ps.length)[k] ∈ ndsOf h subs d ps.length := List.getElem_mem hk
  generalize (ndsOf h subs d ps.length)[k] = x at *
  unfold ndsOf at hmem
  by_cases t6 : h.kind = 6
  · rw [if_pos t6, List.mem_singleton] at hmem
    unfold okB at ho
    rw [if_pos t6, decide_eq_true_eq] at ho
    have hj : d.k.toNat < subs.length := by omega
    rw [hmem, List.getD_eq_getElem?_getD, List.getElem?_eq_getElem hj]
    exact List.getElem_mem hj
  · rw [if_neg t6] at hmem
    by_cases t8 : h.kind = 8
    · rw [if_pos t8] at hmem
      have hx := List.eq_of_mem_replicate hmem
      have hj : 0 < subs.length := by omega
      rw [hx, List.getD_eq_getElem?_getD, List.getElem?_eq_getElem hj]
      exact List.getElem_mem hj
    · rw [if_neg t8] at hmem
      exact hmem

def In (d : Pd) (s : Int × Int) : Prop := d.a ≤ s.1 ∧ s.1 ≤ s.2 ∧ s.2 ≤ d.b
/-- What a walk leaves at a number: what was there, nowhere, or a span within the parse's; a number that the tree has not keeps what it had. -/
theorem walk_at : ∀ (p : Ps) (n : Nd), formB n = true → parseN sz L p n = true → ∀ (y : Int), 0 ≤ y → ∀ (l : List (Int × Int)), l.length = 1000 →
    (y ∉ gnN n → getS (walkN p n l) y = getS l y) ∧ (getS (walkN p n l) y = getS l y ∨ getS (walkN p n l) y = (-1, -1) ∨ In p.d (getS (walkN p n l) y)) := by
  refine Ps.ind fun d ps ih n hf hp y hy l hl => ?_
  obtain ⟨h, subs⟩ := n
  have hcase := form_cases hf
  have hd := parse_in hp
  simp only [Ps.d] at hd ⊢
  by_cases hk : 5 ≤ h.kind
  case neg =>
    have := parse_leaf hp hk
    subst this
    rw [walkN, if_neg (by omega), walkR]
    exact ⟨fun _ => rfl, .inl rfl⟩
  obtain ⟨ho, hr⟩ := parse_inv hp hk
  rw [walkN]
  obtain ⟨l1, h1⟩ : ∃ l1, l1 = (if h.kind = 7 then setS h.num (d.a, d.b) (unsetL subs l) else l) := ⟨_, rfl⟩
  rw [← h1]
  have hl1 : l1.length = 1000 := by
    rw [h1]
    split
    · rw [setS_len, unsetL_len]; exact hl
    · exact hl
  have hA : (y ∉ gnN (.mk h subs) → getS l1 y = getS l y) ∧ (getS l1 y = getS l y ∨ getS l1 y = (-1, -1) ∨ In d (getS l1 y)) := by
    by_cases t : h.kind = 7
    case neg => rw [h1, if_neg t]; exact ⟨fun _ => rfl, .inl rfl⟩
    have hul : (unsetL subs l).length = 1000 := by rw [unsetL_len]; exact hl
    rw [h1, if_pos t]
    unfold setS
    rw [if_pos (by omega)]
    by_cases e : h.num = y
    · subst e
      rw [getS_same _ hy (by omega)]
      exact ⟨fun hn => absurd (by rw [gnN, if_pos t]; simp) hn, .inr (.inr ⟨Int.le_refl _, hd.2.1, Int.le_refl _⟩)⟩
    · rw [getS_set _ (by omega) hy e]
      refine ⟨fun hn => ?_, ?_⟩
      · refine unsetL_inv (fun l' => getS l' y = getS l y) subs _ (fun n hm l' h' => ?_) rfl
        rw [unset_other n (form_sub hf n hm) y hy (fun h2 => hn (by rw [gnN, List.mem_append]; exact .inr ((gnL_mem subs y).2 ⟨n, hm, h2⟩))) l', h']
      · have := unsetL_inv (fun l' => getS l' y = getS l y ∨ getS l' y = (-1, -1)) subs l (fun n hm l' h' => by
          rcases unset_or n (form_sub hf n hm) y hy l' with h2 | h2
          · rw [h2]; exact h'
          · exact .inr h2) (.inl rfl)
        exact this.imp id .inl
  have hstep := walkR_inv (fun l' => l'.length = 1000 ∧ (y ∉ gnN (.mk h subs) → getS l' y = getS l y) ∧ (getS l' y = getS l y ∨ getS l' y = (-1, -1) ∨ In d (getS l' y))) ps (ndsOf h subs d ps.length) l1 (fun k hk hk' l' h' => by
    obtain ⟨_, hpk⟩ := rowN_get _ _ _ _ hr k hk
    have hmem := nds_mem hf ho k hk'
    have hin := rowN_in _ _ _ _ hr k hk
    obtain ⟨h2, h3⟩ := ih ps[k] (List.getElem_mem hk) _ (form_sub hf _ hmem) hpk y hy l' h'.1
    refine ⟨by rw [walkN_len]; exact h'.1, fun hn => ?_, ?_⟩
    · rw [h2 (fun h4 => hn (by rw [gnN, List.mem_append]; exact .inr ((gnL_mem subs y).2 ⟨_, hmem, h4⟩))), h'.2.1 hn]
    · rcases h3 with h3 | h3 | h3
      · rw [h3]; exact h'.2.2
      · exact .inr (.inl h3)
      · exact .inr (.inr ⟨by have := h3.1; omega, h3.2.1, by have := h3.2.2; omega⟩)) ⟨hl1, hA⟩
  exact hstep.2

def Nest (l : List (Int × Int)) (q : Int × Int) : Prop := getS l q.2 = (-1, -1) ∨ (0 ≤ (getS l q.1).1 ∧ (getS l q.1).1 ≤ (getS l q.2).1 ∧ (getS l q.2).2 ≤ (getS l q.1).2)
theorem walk_nest : ∀ (p : Ps) (n : Nd), formB n = true → parseN sz L p n = true → (gnN n).Nodup → ∀ (l : List (Int × Int)), l.length = 1000 →
    (∀ q ∈ prN 0 n, Nest l q) → ∀ q ∈ prN 0 n, Nest (walkN p n l) q := by
  refine Ps.ind fun d ps ih n hf hp hnd l hl hq0 => ?_
  obtain ⟨h, subs⟩ := n
  have hcase := form_cases hf
  have hd := parse_in hp
  simp only [Ps.d] at hd
  by_cases hk : 5 ≤ h.kind
  case neg =>
    have := parse_leaf hp hk
    subst this
    rw [walkN, if_neg (by omega), walkR]
    exact hq0
  obtain ⟨ho, hr⟩ := parse_inv hp hk
  rw [gnN, List.nodup_append] at hnd
  obtain ⟨_, hnL, hap⟩ := hnd
  by_cases t : h.kind = 7
  · -- a group
    have hs1 : subs.length = 1 := by omega
    obtain ⟨s, rfl⟩ := len_one hs1
    have hfs := form_sub hf s (by simp)
    have hps : ps.length = 1 := by
      unfold okB at ho
      rw [if_neg (by omega), if_pos t, decide_eq_true_eq] at ho
      exact ho
    obtain ⟨q1, rfl⟩ := len_one hps
    have hnds : ndsOf h [s] d 1 = [s] := by unfold ndsOf; rw [if_neg (by omega), if_neg (by omega)]
    simp only [List.length_singleton] at hr ho
    rw [hnds, rowN_one, Bool.and_eq_true, Bool.and_eq_true, decide_eq_true_eq, decide_eq_true_eq] at hr
    obtain ⟨⟨ha, hpq⟩, hb⟩ := hr
    rw [walkN, if_pos t, List.length_singleton, hnds, walkR, walkR, unsetL, unsetL]
    obtain ⟨l1, h1⟩ : ∃ l1, l1 = setS h.num (d.a, d.b) (unsetN s l) := ⟨_, rfl⟩
    rw [← h1]
    have hul : (unsetN s l).length = 1000 := by rw [unsetN_len]; exact hl
    have hl1 : l1.length = 1000 := by rw [h1, setS_len]; exact hul
    have hsn : (gnN s).Nodup := gn_sub [s] hnL s (by simp)
    have hgs : h.num ∉ gnN s := fun h2 => by
      rw [if_pos t] at hap
      exact hap h.num (by simp) h.num ((gnL_mem [s] _).2 ⟨s, by simp, h2⟩) rfl
    have h1num : getS l1 h.num = (d.a, d.b) := by
      rw [h1]; unfold setS
      rw [if_pos (by omega)]
      exact getS_same _ (by omega) (by omega)
    have h1s : ∀ y ∈ gnN s, getS l1 y = (-1, -1) := fun y hy => by
      have hp1 := gn_pos s hfs y hy
      rw [h1]; unfold setS
      rw [if_pos (by omega), getS_set _ (by omega) (by omega) (fun e => hgs (by rw [e]; exact hy))]
      exact unset_all s hfs y hy l hl
    intro q hq
    rw [prN, if_neg (fun h => by omega), if_pos t, List.nil_append, prL_mem] at hq
    obtain ⟨s', hs', hq⟩ := hq
    rw [List.mem_singleton] at hs'
    subst hs'
    rcases pr_split s' h.num q hq with hq | ⟨he, hq⟩
    · exact ih q1 (by simp) s' hfs hpq hsn l1 hl1 (fun q' hq' => .inl (h1s _ (pr_mem0 s' hfs q' hq').2)) q hq
    · have hp2 := gn_pos s' hfs q.2 hq
      have ha1 := (walk_at q1 s' hfs hpq h.num (by omega) l1 hl1).1 hgs
      have hb1 := (walk_at q1 s' hfs hpq q.2 (by omega) l1 hl1).2
      unfold Nest
      rw [he, ha1, h1num]
      rw [h1s _ hq] at hb1
      rcases hb1 with hb1 | hb1 | hb1
      · exact .inl hb1
      · exact .inl hb1
      · right
        have := hb1.1
        have := hb1.2.2
        exact ⟨hd.1, by simp only; omega, by simp only; omega⟩
  · -- a row
    rw [walkN, if_neg t]
    intro q hq
    rw [prN, if_neg (fun h => t h.1), if_neg t, List.nil_append, prL_mem] at hq
    obtain ⟨s, hs, hq⟩ := hq
    have hfs := form_sub hf s hs
    have hl0 : ∀ q ∈ prN 0 s, Nest l q := fun q hq => hq0 q (by rw [prN, if_neg (fun h => t h.1), if_neg t, List.nil_append, prL_mem]; exact ⟨s, hs, hq⟩)
    have hstep := walkR_inv (fun l' => l'.length = 1000 ∧ ∀ q ∈ prN 0 s, Nest l' q) ps (ndsOf h subs d ps.length) l (fun k hk hk' l' h' => by
      obtain ⟨_, hpk⟩ := rowN_get _ _ _ _ hr k hk
      have hmem := nds_mem hf ho k hk'
      refine ⟨by rw [walkN_len]; exact h'.1, ?_⟩
      by_cases e : s = (ndsOf h subs d ps.length)[k]
      · rw [← e] at hpk ⊢
        exact ih ps[k] (List.getElem_mem hk) s hfs hpk (gn_sub subs hnL s hs) l' h'.1 h'.2
      · intro q hq
        obtain ⟨h2, h3⟩ := pr_mem0 s hfs q hq
        have p2 := gn_pos s hfs _ h2
        have p3 := gn_pos s hfs _ h3
        have e1 := (walk_at ps[k] _ (form_sub hf _ hmem) hpk q.1 (by omega) l' h'.1).1 (gn_apart subs hnL s hs _ hmem e _ h2)
        have e2 := (walk_at ps[k] _ (form_sub hf _ hmem) hpk q.2 (by omega) l' h'.1).1 (gn_apart subs hnL s hs _ hmem e _ h3)
        have := h'.2 q hq
        unfold Nest at this ⊢
        rw [e1, e2]
        exact this) ⟨hl, hl0⟩
    exact hstep.2 q hq

/-- What RankNests asks. -/
theorem nests (n : Nd) (p : Ps) (hf : formB n = true) (hp : parseN sz L p n = true) :
    getS (spansN n p 999) 0 = (p.d.a, p.d.b) ∧ (∀ y, 0 ≤ y → getS (spansN n p 999) y = (-1, -1) ∨ In p.d (getS (spansN n p 999) y)) ∧ ((gnN n).Nodup → ∀ q ∈ prN 0 n, Nest (spansN n p 999) q) := by
  have hl : (spans0 p.d 999).length = 1000 := by unfold spans0; rw [List.length_set, List.length_replicate]
  have hd := parse_in hp
  have h0 : getS (spans0 p.d 999) 0 = (p.d.a, p.d.b) := by unfold spans0; exact getS_same (n := 0) _ (by omega) (by rw [List.length_replicate]; decide)
  have hy : ∀ y, 0 < y → getS (spans0 p.d 999) y = (-1, -1) := fun y hy => by
    unfold spans0
    rw [show (0 : Nat) = (0 : Int).toNat from rfl, getS_set _ (by omega) (by omega) (by omega)]
    unfold getS
    rw [List.getD_eq_getElem?_getD, List.getElem?_replicate]
    split <;> rfl
  unfold spansN
  have hin : In p.d (p.d.a, p.d.b) := ⟨Int.le_refl _, hd.2.1, Int.le_refl _⟩
  refine ⟨?_, fun y h1 => ?_, fun hnd => ?_⟩
  · rw [(walk_at p n hf hp 0 (by omega) _ hl).1 (fun h => by have := gn_pos n hf 0 h; omega), h0]
  · have := (walk_at p n hf hp y h1 _ hl).2
    rcases this with h2 | h2 | h2
    · rw [h2]
      by_cases e : y = 0
      · subst e; rw [h0]; exact .inr hin
      · exact .inl (hy y (by omega))
    · exact .inl h2
    · exact .inr h2
  · refine walk_nest p n hf hp hnd _ hl (fun q hq => .inl ?_)
    have := gn_pos n hf _ (pr_mem0 n hf q hq).2
    exact hy _ this.1
end

end Go.Proofs.YthddlhpndaffjaaDoor

namespace Go.Proofs.YthddlhpndaffjaaDoor
open Go Go.RowKit

section
variable {P : Program} {ops : Array Oper} {md : Region.Mode} {Q : Exit → Act → World → Prop} {w0 : World}

def stepQ (K : Act → World → Prop) : Exit → Act → World → Prop
  | .normal, a, w => K a w
  | _, _, _ => False
def updN (u : Nat → Value) (i : Nat) (v : Value) : Nat → Value := fun j => if j = i then v else u j
def depsL (md : Region.Mode) (ops : Array Oper) (i : Nat) : List Nat := match ops[i]? with | none => [] | some o => (o.after.toList.filter (Region.binds md ·)).map (·.on)

theorem wp_stepQ {o : Oper} {a : Act} {w : World} {K K' : Act → World → Prop} (hK : ∀ a w, K a w → K' a w) (h : o.wp P a w (wpList P ops (stepQ K) []) (stepQ K)) : o.wp P a w K' Q := by
  unfold Oper.wp at *
  generalize (execOp a.eval o).run P w = r at *
  cases r with
  | ok n w' =>
    cases n <;> simp only [Oper.upon] at h ⊢ <;>
      first
        | exact hK _ _ h
        | exact Rows.mono h fun v w'' he => hK _ _ he
        | (refine Calls.mono h fun e w'' he => ?_
           cases e with
           | returned v => exact hK _ _ he
           | panicked c => exact he.elim
           | outgrown => obtain ⟨_, _, he⟩ := he; exact he.elim)
  | halt x w' =>
    cases x <;> simp only [Oper.upon] at h ⊢
    all_goals exact h.elim
theorem wpOp_of_list {i : Nat} {o : Oper} {a : Act} {w : World} {K K' : Act → World → Prop} (ho : ops[i]? = some o) (hK : ∀ a w, K a w → K' a w) (h : wpList P ops (stepQ K) [o] a w) : wpOp P ops Q i K' a w := by
  unfold wpOp
  simp only [ho]
  unfold wpList at h
  by_cases hw : Region.wanted o (yielded ops a.tmps) = true
  · rw [if_pos hw] at h ⊢
    rcases h with h | ⟨_, _, _, h⟩
    · exact .inl (wp_stepQ hK h)
    · exact h.elim
  · rw [if_neg hw] at h ⊢
    exact hK _ _ h
theorem wpOp_of_last {i : Nat} {o : Oper} {a : Act} {w : World} {K' : Act → World → Prop} (ho : ops[i]? = some o) (hK : ∀ a w, Q .normal a w → K' a w) (h : wpList P ops Q [o] a w) : wpOp P ops Q i K' a w := by
  unfold wpOp
  simp only [ho]
  unfold wpList at h
  by_cases hw : Region.wanted o (yielded ops a.tmps) = true
  · rw [if_pos hw] at h ⊢
    exact h.imp (Oper.wp_mono hK) id
  · rw [if_neg hw] at h ⊢
    exact hK _ _ h

def cntF (l : List Bool) : Nat := (l.filter (fun b => !b)).length
theorem cntF_set : ∀ (l : List Bool) (i : Nat), l[i]? = some false → cntF (l.set i true) + 1 = cntF l
  | [], i, h => by cases h
  | b :: l, 0, h => by
    simp only [List.getElem?_cons_zero, Option.some.injEq] at h
    subst h
    simp [cntF]
  | b :: l, i + 1, h => by
    have ih := cntF_set l i (by simpa using h)
    cases b <;> simp [cntF] at ih ⊢ <;> omega
theorem cntF_pos : ∀ (l : List Bool), cntF l ≠ 0 → ∃ i : Nat, l[i]? = some false
  | [], h => absurd rfl h
  | false :: l, _ => ⟨0, rfl⟩
  | true :: l, h => by
    obtain ⟨i, hi⟩ := cntF_pos l (fun h0 => h (by simpa [cntF] using h0))
    exact ⟨i + 1, hi⟩
theorem cntF_zero : ∀ (l : List Bool), cntF l = 0 → ∀ i : Nat, l[i]? = some false → False
  | [], _, _, h => by cases h
  | false :: l, h, _, _ => by simp [cntF] at h
  | true :: l, h, 0, h2 => by simp at h2
  | true :: l, h, i + 1, h2 => cntF_zero l (by simpa [cntF] using h) i (by simpa using h2)
theorem getD_false_iff {listed : Array Bool} {i : Nat} : listed.getD i true = false ↔ listed.toList[i]? = some false := by
  rw [Array.getD_eq_getD_getElem?, Array.getElem?_toList]
  cases h : listed[i]? with
  | none => simp
  | some b => simp

theorem ready_none {listed : Array Bool} (h : ∀ i, i < ops.size → listed.getD i true = true) : Region.ready md ops listed = [] := by
  refine List.eq_nil_iff_forall_not_mem.2 fun i hi => ?_
  obtain ⟨h1, o, ho, _⟩ := mem_ready.1 hi
  rw [h i (Array.getElem?_eq_some_iff.1 ho).1] at h1
  cases h1
theorem ready_some {listed : Array Bool} (hs : listed.size = ops.size) (hback : (List.range ops.size).all (fun i => (depsL md ops i).all (decide <| · < i)) = true) : ∀ i, listed.getD i true = false → Region.ready md ops listed ≠ [] := fun i => by
  induction i using Nat.strongRecOn with
  | ind i ih =>
    intro h hr
    have hi : i < ops.size := by
      rw [← hs]
      have := (List.getElem?_eq_some_iff.1 (getD_false_iff.1 h)).1
      simpa using this
    have hnot : i ∉ Region.ready md ops listed := by rw [hr]; simp
    apply hnot
    refine mem_ready.2 ⟨h, ops[i], Array.getElem?_eq_getElem hi, fun e he hb => ?_⟩
    cases hl : listed.getD e.on false with
    | true => rfl
    | false =>
      exfalso
      have hd : e.on ∈ depsL md ops i := by
        unfold depsL
        rw [Array.getElem?_eq_getElem hi]
        exact List.mem_map.2 ⟨e, List.mem_filter.2 ⟨by simpa using he, hb⟩, rfl⟩
      have hlt : e.on < i := by
        have := (List.all_eq_true.1 hback) i (List.mem_range.2 hi)
        simpa using (List.all_eq_true.1 this) _ hd
      exact ih e.on hlt (getD_in (by omega) hl) hr

theorem wpAny_inv (n : Nat) (hn0 : n ≤ ops.size) (T : (Nat → Value) → Act) (Post : Nat → Value → World → Prop) (stable : ∀ i v W W', Ext W W' → Post i v W → Post i v W')
    (hback : (List.range ops.size).all (fun i => (depsL md ops i).all (decide <| · < i)) = true)
    (hlast : (List.range ops.size).all (fun i => decide (i < n) || (decide (i = n) && decide (ops.size = n + 1) && (List.range n).all fun j => (depsL md ops n).contains j)) = true)
    (step : ∀ i o, i < n → ops[i]? = some o → ∀ u W, Ext w0 W → (∀ j ∈ depsL md ops i, Post j (u j) W) → wpList P ops (stepQ fun a' W' => Ext W W' ∧ ∃ v, a' = T (updN u i v) ∧ Post i v W') [o] (T u) W)
    (done : ∀ u W, Ext w0 W → (∀ j, j < n → Post j (u j) W) → wpList P ops Q (ops.toList.drop n) (T u) W) :
    ∀ (f : Nat) (listed : Array Bool) (u : Nat → Value) (W : World), Ext w0 W → listed.size = ops.size → cntF listed.toList = f →
      (∀ j, j < n → listed.getD j false = true → Post j (u j) W) → (∀ j, n ≤ j → j < ops.size → listed.getD j true = false) → wpAny P md ops Q f listed (T u) W := fun f => by
  have hone : ∀ i, i < ops.size → i < n ∨ (i = n ∧ ops.size = n + 1 ∧ ∀ j, j < n → j ∈ depsL md ops n) := fun i hi => by
    have := (List.all_eq_true.1 hlast) i (List.mem_range.2 hi)
    simp only [Bool.or_eq_true, decide_eq_true_eq, Bool.and_eq_true, List.all_eq_true, List.mem_range] at this
    rcases this with h | ⟨⟨h1, h2⟩, h3⟩
    · exact .inl h
    · exact .inr ⟨h1, h2, fun j hj => by simpa using h3 j hj⟩
  induction f with
  | zero =>
    intro listed u W hx hs hc hp hn
    have hall : ∀ i, i < ops.size → listed.getD i true = true := fun i hi => by
      cases h : listed.getD i true with
      | true => rfl
      | false => exact (cntF_zero _ hc i (getD_false_iff.1 h)).elim
    have hle : ops.size ≤ n := by
      rcases Nat.lt_or_ge n ops.size with h | h
      · have h1 := hn n (Nat.le_refl _) h
        rw [hall n h] at h1
        cases h1
      · exact h
    refine ⟨ready_none hall, ?_⟩
    have hd := done u W hx (fun j hj => hp j hj (by
      have := hall j (by omega)
      rw [Array.getD_eq_getD_getElem?, Array.getElem?_eq_getElem (by omega)] at this ⊢
      exact this))
    rw [List.drop_of_length_le (by simpa using hle)] at hd
    exact hd
  | succ f ih =>
    intro listed u W hx hs hc hp hn
    refine ⟨fun hr => ?_, fun i hi => ?_⟩
    · obtain ⟨i, h⟩ := cntF_pos _ (by rw [hc]; exact Nat.succ_ne_zero f)
      exact absurd hr (ready_some hs hback i (getD_false_iff.2 h))
    · obtain ⟨hun, o, ho, hdeps⟩ := mem_ready.1 hi
      have hi' := (Array.getElem?_eq_some_iff.1 ho).1
      have hdl : ∀ j ∈ depsL md ops i, listed.getD j false = true := fun j hj => by
        unfold depsL at hj
        rw [ho] at hj
        obtain ⟨e, he, rfl⟩ := List.mem_map.1 hj
        obtain ⟨he1, he2⟩ := List.mem_filter.1 he
        exact hdeps e (by simpa using he1) he2
      have hdlt : ∀ j ∈ depsL md ops i, j < i := fun j hj => by
        have := (List.all_eq_true.1 hback) i (List.mem_range.2 hi')
        simpa using (List.all_eq_true.1 this) _ hj
      rcases hone i hi' with hlt | ⟨rfl, hsz, hall⟩
      · refine wpOp_of_list ho ?_ (step i o hlt ho u W hx (fun j hj => hp j (by have := hdlt j hj; omega) (hdl j hj)))
        rintro a' W' ⟨hx', v, rfl, hv⟩
        refine ih (listed.setIfInBounds i true) (updN u i v) W' (hx.trans hx') (by simpa using hs) ?_ (fun j hj hl => ?_) (fun j hj hj2 => ?_)
        · rw [Array.toList_setIfInBounds]
          have := cntF_set listed.toList i (getD_false_iff.1 hun)
          omega
        · unfold updN
          by_cases hji : j = i
          · rw [if_pos hji, hji]; exact hv
          · rw [if_neg hji]
            rw [getD_set_ne false (fun e => hji e.symm)] at hl
            exact stable j _ W W' hx' (hp j hj hl)
        · rw [getD_set_ne true (by omega)]
          exact hn j hj hj2
      · have hd := done u W hx (fun j hj => hp j hj (hdl j (hall j hj)))
        have hdrop : ops.toList.drop i = [o] := by
          rw [List.drop_eq_getElem_cons (by simpa using hi'), List.drop_of_length_le (by simp; omega)]
          have := (Array.getElem?_eq_some_iff.1 ho).2
          simpa using this
        rw [hdrop] at hd
        refine wpOp_of_last ho (fun a' W' hq => ?_) hd
        have hr : Region.ready md ops (listed.setIfInBounds i true) = [] := ready_none fun j hj => by
          rcases Nat.lt_or_ge j i with h | h
          · rw [getD_set_ne true (by omega)]
            have := hdl j (hall j h)
            rw [Array.getD_eq_getD_getElem?, Array.getElem?_eq_getElem (by omega)] at this ⊢
            exact this
          · have : j = i := by omega
            subst this
            simp [hs, hj]
        cases f with
        | zero => exact ⟨hr, hq⟩
        | succ f => exact ⟨fun _ => hq, by rw [hr]; simp⟩

/-- The beginning. -/
theorem wp_region_inv {id : Nat} {a : Act} {w : World} (n : Nat) (T : (Nat → Value) → Act) (Post : Nat → Value → World → Prop) (u0 : Nat → Value) (hT : a = T u0) (hm : P.follows .mixedOrders = true) (hn0 : n ≤ ops.size) (stable : ∀ i v W W', Ext W W' → Post i v W → Post i v W')
    (hback : (List.range ops.size).all (fun i => (depsL .any ops i).all (decide <| · < i)) = true)
    (hlast : (List.range ops.size).all (fun i => decide (i < n) || (decide (i = n) && decide (ops.size = n + 1) && (List.range n).all fun j => (depsL .any ops n).contains j)) = true)
    (step : ∀ i o, i < n → ops[i]? = some o → ∀ u W, Ext w W → (∀ j ∈ depsL .any ops i, Post j (u j) W) → wpList P ops (stepQ fun a' W' => Ext W W' ∧ ∃ v, a' = T (updN u i v) ∧ Post i v W') [o] (T u) W)
    (done : ∀ u W, Ext w W → (∀ j, j < n → Post j (u j) W) → wpList P ops Q (ops.toList.drop n) (T u) W) : (Code.region id ops true).wp P Q a w := by
  refine wp_region_any hm ?_
  rw [hT]
  refine wpAny_inv (w0 := w) n hn0 T Post stable hback hlast step done ops.size _ u0 _ (Ext.refl w).drew (by simp) ?_ (fun j _ hl => ?_) (fun j _ hj => ?_)
  · rw [Array.toList_replicate]
    unfold cntF
    rw [List.filter_replicate]
    simp
  · rw [getD_replicate_false] at hl
    cases hl
  · exact getD_in (by simpa using hj) (getD_replicate_false _ _)

end
end Go.Proofs.YthddlhpndaffjaaDoor

namespace Go.Proofs.YthddlhpndaffjaaDoor
open Go Go.RowKit

section
variable {P : Program} {ops : Array Oper} {md : Region.Mode} {Q : Exit → Act → World → Prop} {S : World → Prop} {m : Nat}

/-- As wpAny, and S holds behind each operation ahead of number m. -/
def wpAnyM (P : Program) (md : Region.Mode) (ops : Array Oper) (Q : Exit → Act → World → Prop) (S : World → Prop) (m : Nat) : Nat → Array Bool → Act → World → Prop
  | 0, listed, a, w => Region.ready md ops listed = [] ∧ Q .normal a w
  | f + 1, listed, a, w => (Region.ready md ops listed = [] → Q .normal a w) ∧
      ∀ i ∈ Region.ready md ops listed, wpOp P ops Q i (fun a' w' => if i = m then wpAny P md ops Q f (listed.setIfInBounds i true) a' w' else S w' ∧ wpAnyM P md ops Q S m f (listed.setIfInBounds i true) a' w') a w
theorem wpAny_of_mid : ∀ (f : Nat) (listed : Array Bool) (a : Act) (w : World), wpAnyM P md ops Q S m f listed a w → wpAny P md ops Q f listed a w
  | 0, _, _, _, h => h
  | f + 1, _, _, _, h => ⟨h.1, fun i hi => wpOp_mono (fun a' w' h' => by
      by_cases he : i = m
      · rw [if_pos he] at h'; exact h'
      · rw [if_neg he] at h'; exact wpAny_of_mid f _ a' w' h'.2) (h.2 i hi)⟩

/-- Each of cs waits for i or for one of cs. -/
def waitB (md : Region.Mode) (ops : Array Oper) (i : Nat) (cs : List Nat) : Bool := cs.all fun c => (depsL md ops c).any fun d => d == i || cs.contains d
theorem wait_not {i j : Nat} {cs : List Nat} {listed : Array Bool} (hw : waitB md ops i cs = true) (hj : j ∈ Region.ready md ops listed) (hi : listed.getD i true = false) (hcs : ∀ c ∈ cs, listed.getD c true = false) : j ∉ cs := fun hm => by
  have h1 := List.all_eq_true.1 hw j hm
  obtain ⟨d, hd, h2⟩ := List.any_eq_true.1 h1
  obtain ⟨_, o, ho, hall⟩ := mem_ready.1 hj
  unfold depsL at hd
  rw [ho] at hd
  obtain ⟨e, he, rfl⟩ := List.mem_map.1 hd
  obtain ⟨he1, he2⟩ := List.mem_filter.1 he
  have h3 := hall e (by simpa using he1) he2
  rcases Bool.or_eq_true _ _ ▸ h2 with h2 | h2
  · rw [beq_iff_eq] at h2
    rw [h2, getD_both hi] at h3
    cases h3
  · rw [getD_both (hcs _ (by simpa using h2))] at h3
    cases h3
theorem wpAnyM_first {i : Nat} {oi : Oper} {v : Value} {cs : List Nat} (hi : ops[i]? = some oi) (hsel : ∀ (j : Nat) (o : Oper) cs b, ops[j]? = some o → o.op ≠ .select cs b)
    (hQ : ∀ c a w, Q (.panic c) (a.put oi.dst v) w → Q (.panic c) a w) (hw : waitB md ops i cs = true) (hm : m ∈ cs) (him : i ∉ cs) :
    ∀ (f : Nat) (listed : Array Bool) (a : Act) (w : World),
      (∀ j oj, ops[j]? = some oj → j ≠ i → listed.getD j true = false → (∀ e ∈ oj.after, Region.binds md e = true → e.on ≠ i) → oi.apart ops oj = true) →
      i ∈ Region.ready md ops listed → (∀ c ∈ cs, listed.getD c true = false) → YieldsIf P ops S oi v a → S w →
      wpAnyM P md ops Q S m f (listed.setIfInBounds i true) (a.put oi.dst v) w → wpAnyM P md ops Q S m (f + 1) listed a w := by
  have hne : i ≠ m := fun e => him (e ▸ hm)
  intro f
  induction f with
  | zero =>
    intro listed a w _ hr hcs hy hS H
    refine ⟨fun h => (by rw [h] at hr; cases hr), fun j hj => ?_⟩
    by_cases hji : j = i
    · subst hji
      exact hy.wpOp hi hS (by rw [if_neg hne]; exact ⟨hS, H⟩)
    · have := ready_mono hj hji
      rw [H.1] at this
      cases this
  | succ f ih =>
    intro listed a w hfree hr hcs hy hS H
    refine ⟨fun h => (by rw [h] at hr; cases hr), fun j hj => ?_⟩
    by_cases hji : j = i
    · subst hji
      exact hy.wpOp hi hS (by rw [if_neg hne]; exact ⟨hS, H⟩)
    · have h1 := H.2 j (ready_mono hj hji)
      obtain ⟨hjun, oj, hoj, hall⟩ := mem_ready.1 hj
      have hun := (mem_ready.1 hr).1
      have hjc := wait_not hw hj hun hcs
      have hjm : j ≠ m := fun e => hjc (e ▸ hm)
      have hnot : ∀ e ∈ oj.after, Region.binds md e = true → e.on ≠ i := fun e he hb heq => by
        have h1 := hall e he hb
        rw [heq, getD_both hun] at h1
        cases h1
      have hap := hfree j oj hoj hji hjun hnot
      have h2 := wpOp_putIf hoj hap (fun cs b => hsel i oi cs b hi) (fun cs b => hsel j oj cs b hoj) hQ hy h1
      refine wpOp_mono (fun a' w' h3 => ?_) h2
      rw [if_neg hjm]
      have h4 := h3.2
      rw [if_neg hjm] at h4
      refine ⟨h4.1, ih (listed.setIfInBounds j true) a' w' (fun k ok hk hki hk2 hno => ?_) (ready_mono hr (Ne.symm hji)) (fun c hc => ?_) h3.1 h4.1 ?_⟩
      · refine hfree k ok hk hki ?_ hno
        by_cases hjk : j = k
        · subst hjk; exact hjun
        · rw [getD_set_ne true hjk] at hk2; exact hk2
      · rw [getD_set_ne true (fun e => by subst e; exact hjc hc)]
        exact hcs c hc
      · rw [Array.setIfInBounds_comm _ _ hji]
        exact h4.2
/-- Take number i first; cs: those from it to number m that wait for it. -/
theorem wpAnyM_take {i : Nat} {oi : Oper} {v : Value} {f : Nat} {listed : Array Bool} {a : Act} {w : World} (cs : List Nat) (hi : ops[i]? = some oi)
    (hs : Region.noSelect ops = true) (hf : Region.free md ops listed i = true) (hr : (Region.ready md ops listed).contains i = true)
    (hw : (waitB md ops i cs && cs.contains m && !cs.contains i && cs.all fun c => !listed.getD c true) = true)
    (hQ : ∀ c a w, Q (.panic c) (a.put oi.dst v) w → Q (.panic c) a w) (hS : S w) (hy : YieldsIf P ops S oi v a)
    (h : wpAnyM P md ops Q S m f (listed.setIfInBounds i true) (a.put oi.dst v) w) : wpAnyM P md ops Q S m (f + 1) listed a w := by
  simp only [Bool.and_eq_true, Bool.not_eq_true', List.all_eq_true] at hw
  obtain ⟨⟨⟨h1, h2⟩, h3⟩, h4⟩ := hw
  exact wpAnyM_first hi (Region.noSelect_spec hs) hQ h1 (by simpa using h2) (by simpa using h3) f listed a w (Region.free_spec hi hf) (by simpa using hr) h4 hy hS h
theorem wpAnyM_firstP {i : Nat} {oi : Oper} {v : Value} (hi : ops[i]? = some oi) (hsel : ∀ (j : Nat) (o : Oper) cs b, ops[j]? = some o → o.op ≠ .select cs b)
    (hQ : ∀ c a w, Q (.panic c) (a.put oi.dst v) w → Q (.panic c) a w) (hne : i ≠ m) :
    ∀ (f : Nat) (listed : Array Bool) (a : Act) (w : World),
      (∀ j oj, ops[j]? = some oj → j ≠ i → listed.getD j true = false → (∀ e ∈ oj.after, Region.binds md e = true → e.on ≠ i) → oi.apart ops oj = true) →
      i ∈ Region.ready md ops listed → Yields P ops oi v a → S w →
      wpAnyM P md ops Q S m f (listed.setIfInBounds i true) (a.put oi.dst v) w → wpAnyM P md ops Q S m (f + 1) listed a w := by
  intro f
  induction f with
  | zero =>
    intro listed a w _ hr hy hS H
    refine ⟨fun h => (by rw [h] at hr; cases hr), fun j hj => ?_⟩
    by_cases hji : j = i
    · subst hji
      exact hy.wpOp hi (by rw [if_neg hne]; exact ⟨hS, H⟩)
    · have := ready_mono hj hji
      rw [H.1] at this
      cases this
  | succ f ih =>
    intro listed a w hfree hr hy hS H
    refine ⟨fun h => (by rw [h] at hr; cases hr), fun j hj => ?_⟩
    by_cases hji : j = i
    · subst hji
      exact hy.wpOp hi (by rw [if_neg hne]; exact ⟨hS, H⟩)
    · have h1 := H.2 j (ready_mono hj hji)
      obtain ⟨hjun, oj, hoj, hall⟩ := mem_ready.1 hj
      have hun := (mem_ready.1 hr).1
      have hnot : ∀ e ∈ oj.after, Region.binds md e = true → e.on ≠ i := fun e he hb heq => by
        have h1 := hall e he hb
        rw [heq, getD_both hun] at h1
        cases h1
      have hap := hfree j oj hoj hji hjun hnot
      have h2 := wpOp_put hoj hap (fun cs b => hsel i oi cs b hi) (fun cs b => hsel j oj cs b hoj) hQ hy h1
      have hfree2 : ∀ k ok, ops[k]? = some ok → k ≠ i → (listed.setIfInBounds j true).getD k true = false → (∀ e ∈ ok.after, Region.binds md e = true → e.on ≠ i) → oi.apart ops ok = true := fun k ok hk hki hk2 hno => by
        refine hfree k ok hk hki ?_ hno
        by_cases hjk : j = k
        · subst hjk; exact hjun
        · rw [getD_set_ne true hjk] at hk2; exact hk2
      refine wpOp_mono (fun a' w' h3 => ?_) h2
      have h4 := h3.2
      by_cases hjm : j = m
      · rw [if_pos hjm] at h4 ⊢
        refine wpAny_first hi hsel hQ f _ a' w' hfree2 (ready_mono hr (Ne.symm hji)) h3.1 ?_
        rw [Array.setIfInBounds_comm _ _ hji]
        exact h4
      · rw [if_neg hjm] at h4 ⊢
        refine ⟨h4.1, ih (listed.setIfInBounds j true) a' w' hfree2 (ready_mono hr (Ne.symm hji)) h3.1 h4.1 ?_⟩
        rw [Array.setIfInBounds_comm _ _ hji]
        exact h4.2
/-- Take number i first, which does not look at the world. -/
theorem wpAnyM_pure {i : Nat} {oi : Oper} {v : Value} {f : Nat} {listed : Array Bool} {a : Act} {w : World} (hi : ops[i]? = some oi)
    (hs : Region.noSelect ops = true) (hf : Region.free md ops listed i = true) (hr : (Region.ready md ops listed).contains i = true) (hne : i ≠ m)
    (hQ : ∀ c a w, Q (.panic c) (a.put oi.dst v) w → Q (.panic c) a w) (hS : S w) (hg : oi.guard = none) (hy : ∀ w, (execOp a.eval oi).run P w = .ok (.value v) w)
    (h : wpAnyM P md ops Q S m f (listed.setIfInBounds i true) (a.put oi.dst v) w) : wpAnyM P md ops Q S m (f + 1) listed a w :=
  wpAnyM_firstP hi (Region.noSelect_spec hs) hQ hne f listed a w (Region.free_spec hi hf) (by simpa using hr) (.inl ⟨by simp [Region.wanted, hg], hy⟩) hS h
/-- The one that comes up next, ahead of number m. -/
theorem wpAnyM_step {i : Nat} {o : Oper} {f : Nat} {listed : Array Bool} {a : Act} {w : World} (hr : Region.ready md ops listed = [i]) (ho : ops[i]? = some o) (hne : i ≠ m)
    (h : wpList P ops (stepQ fun a' w' => S w' ∧ wpAnyM P md ops Q S m f (listed.setIfInBounds i true) a' w') [o] a w) : wpAnyM P md ops Q S m (f + 1) listed a w := by
  refine ⟨fun h0 => (by rw [hr] at h0; cases h0), fun j hj => ?_⟩
  rw [hr, List.mem_singleton] at hj
  subst hj
  exact wpOp_of_list ho (fun a' w' h1 => by rw [if_neg hne]; exact h1) h
/-- Number m and one behind it. -/
theorem wpAnyM_last {t : Nat} {o o' : Oper} {f : Nat} {listed : Array Bool} {a : Act} {w : World} (hr : Region.ready md ops listed = [m]) (ho : ops[m]? = some o) (hr2 : Region.ready md ops (listed.setIfInBounds m true) = [t]) (ho' : ops[t]? = some o') (hr3 : Region.ready md ops ((listed.setIfInBounds m true).setIfInBounds t true) = [])
    (h : wpList P ops (stepQ fun a' w' => wpList P ops Q [o'] a' w') [o] a w) : wpAnyM P md ops Q S m (f + 2) listed a w := by
  refine ⟨fun h0 => (by rw [hr] at h0; cases h0), fun j hj => ?_⟩
  rw [hr, List.mem_singleton] at hj
  subst hj
  refine wpOp_of_list ho (fun a' w' h1 => ?_) h
  rw [if_pos rfl]
  refine ⟨fun h0 => (by rw [hr2] at h0; cases h0), fun j hj => ?_⟩
  rw [hr2, List.mem_singleton] at hj
  subst hj
  refine wpOp_of_last ho' (fun a'' w'' h2 => ?_) h1
  cases f with
  | zero => exact ⟨hr3, h2⟩
  | succ f => exact ⟨fun _ => h2, by rw [hr3]; simp⟩
/-- Number m and two behind it. -/
theorem wpAnyM_last3 {t u : Nat} {o o' o'' : Oper} {f : Nat} {listed : Array Bool} {a : Act} {w : World} (hr : Region.ready md ops listed = [m]) (ho : ops[m]? = some o) (hr2 : Region.ready md ops (listed.setIfInBounds m true) = [t]) (ho' : ops[t]? = some o')
    (hr3 : Region.ready md ops ((listed.setIfInBounds m true).setIfInBounds t true) = [u]) (ho'' : ops[u]? = some o'') (hr4 : Region.ready md ops (((listed.setIfInBounds m true).setIfInBounds t true).setIfInBounds u true) = [])
    (h : wpList P ops (stepQ fun a' w' => wpList P ops (stepQ fun a'' w'' => wpList P ops Q [o''] a'' w'') [o'] a' w') [o] a w) : wpAnyM P md ops Q S m (f + 3) listed a w := by
  refine ⟨fun h0 => (by rw [hr] at h0; cases h0), fun j hj => ?_⟩
  rw [hr, List.mem_singleton] at hj
  subst hj
  refine wpOp_of_list ho (fun a1 w1 h1 => ?_) h
  rw [if_pos rfl]
  refine ⟨fun h0 => (by rw [hr2] at h0; cases h0), fun j hj => ?_⟩
  rw [hr2, List.mem_singleton] at hj
  subst hj
  refine wpOp_of_list ho' (fun a2 w2 h2 => ?_) h1
  refine ⟨fun h0 => (by rw [hr3] at h0; cases h0), fun j hj => ?_⟩
  rw [hr3, List.mem_singleton] at hj
  subst hj
  refine wpOp_of_last ho'' (fun a3 w3 h3 => ?_) h2
  cases f with
  | zero => exact ⟨hr4, h3⟩
  | succ f => exact ⟨fun _ => h3, by rw [hr4]; simp⟩
/-- The beginning. -/
theorem wp_region_mid {id : Nat} {a : Act} {w : World} (S : World → Prop) (m : Nat) (hm : P.follows .mixedOrders = true)
    (h : wpAnyM P .any ops Q S m ops.size (Array.replicate ops.size false) a w.drew) : (Code.region id ops true).wp P Q a w :=
  wp_region_any hm (wpAny_of_mid _ _ _ _ h)
/-- What an operation without a guard answers in every world of S. -/
theorem yieldsIf_value {o : Oper} {v : Value} {a : Act} (hg : o.guard = none) (h : ∀ w, S w → (execOp a.eval o).run P w = .ok (.value v) w) : YieldsIf P ops S o v a := .inl ⟨by simp [Region.wanted, hg], h⟩
theorem stepQ_ok {K : Act → World → Prop} {a : Act} {w : World} (h : K a w) : stepQ K .normal a w := h
theorem stepQ_end {K : Act → World → Prop} {ops : Array Oper} {a : Act} {w : World} (h : K a w) : wpList P ops (stepQ K) [] a w := h
end

end Go.Proofs.YthddlhpndaffjaaDoor

namespace Go.Proofs.YthddlhpndaffjaaDoor
open Go Go.RowKit

/-- Which numbers have been seen, as cells. -/
def seenC (S : List Int) : Array Value := ((List.range 1000).map fun b : Nat => Value.bool (decide ((b : Int) ∈ S))).toArray
set_option maxRecDepth 100000 in
theorem seenC_get (S : List Int) (i : Nat) (h : i < 1000) : (seenC S)[i]? = some (.bool (decide ((i : Int) ∈ S))) := by unfold seenC; simp [h]
set_option maxRecDepth 100000 in
theorem seenC_set (S : List Int) (i : Nat) : (seenC S).setIfInBounds i (.bool true) = seenC (S ++ [(i : Int)]) := by
  apply Array.ext
  · simp [seenC]
  · intro j h1 h2
    have hj : j < 1000 := by simpa [seenC] using h2
    have e1 := seenC_get (S ++ [(i : Int)]) j hj
    rw [Array.getElem?_eq_getElem h2] at e1
    injection e1 with e1
    have hsz : (seenC S).size = 1000 := by simp [seenC]
    rw [e1, Array.getElem_setIfInBounds (by rw [hsz]; exact hj)]
    have e2 := seenC_get S j hj
    by_cases hij : i = j
    · subst hij
      simp
    · rw [if_neg hij]
      rw [Array.getElem?_eq_getElem (by simpa [seenC] using hj)] at e2
      injection e2 with e2
      rw [e2]
      congr 1
      rw [decide_eq_decide]
      simp
      omega

abbrev OwnPr (w : World) (B : Nat) (v : Value) (l : List (Int × Int)) : Prop := OwnR w B 84 2 v (spR l)
/-- What within has laid: seen in gs, the list of pairs behind gp. -/
structure WSt (w : World) (B gs gp : Nat) (S : List Int) (P : List (Int × Int)) : Prop where
  seen : Blk w gs 80 (seenC S)
  pairs : ∃ v, Blk w gp 79 #[v] ∧ OwnPr w B v P
theorem WSt.ext {w w' : World} {B gs gp : Nat} {S : List Int} {P : List (Int × Int)} (h : WSt w B gs gp S P) (hx : Ext w w') : WSt w' B gs gp S P :=
  ⟨h.seen.ext hx, by obtain ⟨v, h1, h2⟩ := h.pairs; exact ⟨v, h1.ext hx, OwnR.ext h2 hx⟩⟩
theorem own_apart {w : World} {B g : Nat} {e t : TypeId} {v : Value} {k : Nat} {cs : Array Value} {rows : List (List Value)} (hO : OwnR w B e k v rows) (hb : Blk w g t cs) (ht : t ≠ e) : v.ownBlock ≠ some g := fun hv => by
  rcases OwnR.slice hO with ⟨rfl, _⟩ | ⟨g', cap, cur, rfl, _, hB, _⟩
  · cases hv
  · have : g' = g := by simpa [Value.ownBlock] using hv
    subst this
    exact hb.ne hB ht rfl
theorem info_prZ : (Tryd.prog.info? 84).map (fun i => (i.zero, i.size, i.bytes)) = some (some (.agg #[Value.int .i64 0, Value.int .i64 0]), 2, 16) := by kernel_rfl
mutual
theorem gnN_few : ∀ (n : Nd) (m : Int), 0 ≤ leftN n m → (gnN n).length ≤ m - leftN n m
  | .mk h subs, m, hl => by
    unfold leftN at hl ⊢
    have := gnL_few subs (m - 1) hl
    unfold gnN
    rw [List.length_append]
    split <;> simp <;> omega
theorem gnL_few : ∀ (l : List Nd) (m : Int), 0 ≤ leftL l m → (gnL l).length ≤ m - leftL l m
  | [], m, hl => by unfold leftL gnL; simp
  | n :: r, m, hl => by
    by_cases hm : 0 ≤ m
    · rw [leftL, if_pos hm] at hl ⊢
      have h2 : 0 ≤ leftN n m := by
        rcases Int.lt_or_le (leftN n m) 0 with h3 | h3
        · rw [leftL_neg _ _ h3] at hl; omega
        · exact h3
      have h3 := gnN_few n m h2
      have h5 := gnL_few r (leftN n m) hl
      rw [gnL, List.length_append]
      omega
    · rw [leftL_neg _ _ (by omega)] at hl
      omega
end
mutual
theorem prN_len : ∀ (n : Nd) (ab : Int), (prN ab n).length ≤ (gnN n).length
  | .mk h subs, ab => by
    rw [prN, gnN, List.length_append, List.length_append]
    have := prL_len subs (if h.kind = 7 then h.num else ab)
    generalize (prL (if h.kind = 7 then h.num else ab) subs).length = a at *
    by_cases t : h.kind = 7
    · by_cases t2 : 0 < ab
      · rw [if_pos ⟨t, t2⟩, if_pos t]; simp; omega
      · rw [if_neg (fun h => t2 h.2), if_pos t]; simp; omega
    · rw [if_neg (fun h => t h.1), if_neg t]
      simp; omega
theorem prL_len : ∀ (l : List Nd) (ab : Int), (prL ab l).length ≤ (gnL l).length
  | [], ab => by rw [prL, gnL]; simp
  | n :: r, ab => by
    rw [prL, gnL, List.length_append, List.length_append]
    have := prN_len n ab
    have := prL_len r ab
    omega
end
theorem gnL_snoc : ∀ (a : List Nd) (n : Nd), gnL (a ++ [n]) = gnL a ++ gnN n
  | [], n => by simp [gnL]
  | x :: a, n => by
    show gnL (x :: (a ++ [n])) = _
    rw [gnL, gnL, gnL_snoc a n, List.append_assoc]
theorem prL_snoc : ∀ (a : List Nd) (ab : Int) (n : Nd), prL ab (a ++ [n]) = prL ab a ++ prN ab n
  | [], ab, n => by simp [prL]
  | x :: a, ab, n => by
    show prL ab (x :: (a ++ [n])) = _
    rw [prL, prL, prL_snoc a ab n, List.append_assoc]
theorem gnL_take_len (subs : List Nd) (k : Nat) : (gnL (subs.take k)).length ≤ (gnL subs).length := by
  conv => rhs; rw [← List.take_append_drop k subs]
  generalize subs.take k = a
  generalize subs.drop k = b
  induction a with
  | nil => simp [gnL]
  | cons x a ih =>
    show (gnL (x :: a)).length ≤ (gnL (x :: (a ++ b))).length
    rw [gnL, gnL, List.length_append, List.length_append]
    omega

theorem zero_pr : (Tryd.prog.info? 84).map (fun i => i.zero) = some (some (.agg #[.int .i64 0, .int .i64 0])) := by kernel_rfl
theorem info_pr2 : (Tryd.prog.info? 84).map (·.size) = some 2 := by kernel_rfl
/-- A slice of one pair, new. -/
theorem wpl_onePr {ops : Array Oper} {rest : List Oper} {o : Oper} {a : Act} {w : World} {Q : Exit → Act → World → Prop} (hgd : o.guard = none) (x : Operand) (ho : o.op = .buildSlice 79 1 #[(0, x)]) (s : Int × Int) (hx : a.eval x = .agg #[.int .i64 s.1, .int .i64 s.2])
    (hK : ∀ g w1, Blk w1 g 84 #[.int .i64 s.1, .int .i64 s.2] → Ext w w1 → w.heap.size ≤ g → g < w1.heap.size → wpList Tryd.prog ops Q rest (a.put o.dst (.slice (some ⟨g, 0, none⟩) 1 1)) w1) : wpList Tryd.prog ops Q (o :: rest) a w := by
  obtain ⟨i, hi, hz⟩ := Option.map_eq_some_iff.1 zero_pr
  have hs : i.size = 2 := by have := info_pr2; rw [hi] at this; simpa using this
  refine wpList_buildSlice hgd 79 84 1 _ ho #[.int .i64 s.1, .int .i64 s.2] i _ Tryd.underlying79 hi hz (by rw [hs]; decide) (by rw [hs]; decide) ?_ (hK _ _ (Blk.new w _ _) ((Ext.refl w).alloc _) (Nat.le_refl _) (by simp))
  rw [hs]
  have hf := Great.fill_whole (s := 2) (by decide) [Value.agg #[.int .i64 s.1, .int .i64 s.2]] ((Array.range (1 * 2)).map ((Value.agg #[.int .i64 0, .int .i64 0]).cells[· % (Value.agg #[.int .i64 0, .int .i64 0]).cells.size]!)) (fun v hv => by simp only [List.mem_singleton] at hv; subst hv; rfl) (by simp)
  have e : (List.map (fun x => (x.2, x.1)) ([Value.agg #[.int .i64 s.1, .int .i64 s.2]].zipIdx 0)) = (Array.map (fun x => (x.1, a.eval x.2)) #[(0, x)]).toList := by simp [hx]
  rw [e] at hf
  rw [hf]
  simp [Value.cells]
theorem spC_one2 (x : Int × Int) : ∀ u ∈ spC x, u.oneCell' = true := by
  intro u hu
  simp only [spC, List.mem_cons, List.not_mem_nil, or_false] at hu
  rcases hu with rfl | rfl <;> rfl

/-- What within answers. -/
def RetW (W : World) (B gs gp : Nat) (S S' : List Int) (P' : List (Int × Int)) (new : List Int) (r : Ending) (w' : World) : Prop :=
  ∃ b, r = .returned (.bool b) ∧ Ext W w' ∧ (b = true → WSt w' B gs gp S' P' ∧ new.Nodup ∧ ∀ x ∈ new, x ∉ S)

set_option maxRecDepth 100000 in
set_option maxHeartbeats 8000000 in
theorem within_any : ∀ (n : Nd) (sv : Value) (W w : World) (ab : Int) (B gs gp : Nat) (S : List Int) (P : List (Int × Int)), NdOk W n sv → formB n = true → smallN n → Ext W w → W.heap.size ≤ B → B ≤ gs → B ≤ gp → B ≤ w.heap.size → P.length + (gnN n).length ≤ 1000000 → WSt w B gs gp S P →
    Calls Tryd.prog 47 #[nodeV n.h sv, .int .i64 ab, .pointer (some ⟨gp, 0, none⟩), .pointer (some ⟨gs, 0, none⟩)] w (RetW W B gs gp S (S ++ gnN n) (P ++ prN ab n) (gnN n)) := by
  refine Nd.ind fun h subs ih sv W w ab B gs gp S P hn hf hsm hx hWB hgs hgp hBw hlen hst => ?_
  have hcase := form_cases hf
  have hsub := form_sub hf
  obtain ⟨A, cs, rfl⟩ := hn.shape
  obtain ⟨hsl, hsml⟩ := hsm
  simp only [Nd.subs] at *
  show Calls _ _ #[nodeV h _, _, _, _] _ _
  have IH := Lib.hid (fun n hm sv w ab S P hn hx hBw hlen hst => ih n hm sv W w ab B gs gp S P hn (hsub n hm) (smallL_mem hsml n hm) hx hWB hgs hgp hBw hlen hst)
  have HN := Lib.hid hn
  obtain ⟨ab1, HAB⟩ : ∃ ab1, Hid (ab1 = if h.kind = 7 then h.num else ab) := ⟨_, Lib.hid rfl⟩
  obtain ⟨S1, HS1⟩ : ∃ S1, Hid (S1 = S ++ (if h.kind = 7 then [h.num] else [])) := ⟨_, Lib.hid rfl⟩
  obtain ⟨P1, HP1⟩ : ∃ P1, Hid (P1 = P ++ (if h.kind = 7 ∧ 0 < ab then [(ab, h.num)] else [])) := ⟨_, Lib.hid rfl⟩
  have e1 : S ++ gnN (.mk h subs) = S1 ++ gnL subs := by rw [gnN, HS1.out, List.append_assoc]
  have e2 : P ++ prN ab (.mk h subs) = P1 ++ prL ab1 subs := by rw [prN, HP1.out, HAB.out, List.append_assoc]
  have hl1 : P1.length + (gnL subs).length ≤ 1000000 := by
    have h1 := hlen
    rw [gnN, List.length_append] at h1
    rw [HP1.out, List.length_append]
    by_cases t : h.kind = 7
    · rw [if_pos t, List.length_singleton] at h1
      split <;> simp <;> omega
    · rw [if_neg (fun h => t h.1)]
      simp
      omega
  have HND := Lib.hid (show (gnL subs).Nodup → (∀ x ∈ gnL subs, x ∉ S1) → (h.kind = 7 → h.num ∉ S) → (gnN (.mk h subs)).Nodup ∧ ∀ x ∈ gnN (.mk h subs), x ∉ S from fun q1 q2 q3 => by
    rw [gnN]
    by_cases t : h.kind = 7
    · rw [if_pos t]
      have q4 := HS1.out
      rw [if_pos t] at q4
      refine ⟨?_, fun x hx => ?_⟩
      · rw [List.singleton_append, List.nodup_cons]
        exact ⟨fun h2 => q2 _ h2 (by rw [q4]; simp), q1⟩
      · rw [List.singleton_append, List.mem_cons] at hx
        rcases hx with rfl | hx
        · exact q3 t
        · exact fun h2 => q2 x hx (by rw [q4]; simp [h2])
    · rw [if_neg t]
      have q4 := HS1.out
      rw [if_neg t, List.append_nil] at q4
      rw [List.nil_append]
      exact ⟨q1, fun x hx => by rw [← q4]; exact q2 x hx⟩)
  rw [e1, e2]
  generalize gnN (.mk h subs) = gn at *
  have HLN := Lib.hid hl1
  have HBW := Lib.hid hBw
  clear ih hsub hn hf hsml hlen hl1 e1 e2 hBw
  go_enter Tryd.func47, Tryd.ntmps47
  go_upto_region 1 with (refine wpl_boxNd rfl _ rfl h _ rfl ?_; intro z w1 hb hx1 ez sz)
  replace hst := hst.ext hx1
  replace hx := hx.trans hx1
  have HBW1 := Lib.hid (Nat.le_trans HBW.out hx1.size)
  have n0 : w1.cell? ⟨z, 0, none⟩ = some (.int .i64 h.kind) := hb.cell 0
  have n5 : w1.cell? ⟨z, 5, none⟩ = some (.slice A subs.length cs) := hb.cell 5
  have n6 : w1.cell? ⟨z, 6, none⟩ = some (.int .i64 h.num) := hb.cell 6
  clear hx1 ez sz HBW
  by_cases hdup : h.kind = 7 ∧ h.num ∈ S
  · -- seen already
    obtain ⟨t7, hmem⟩ := hdup
    obtain ⟨j, hj⟩ := Int.eq_ofNat_of_zero_le (show 0 ≤ h.num by omega)
    have hj2 : j < 1000 := by omega
    have c0 : w1.cell? ⟨gs, j, none⟩ = some (.bool true) := by
      rw [hst.seen.cell, seenC_get _ _ hj2, ← hj, decide_eq_true hmem]
    rw [t7] at n0
    rw [hj] at n6
    have p6 := cell_plus n6
    have pc := cell_plus c0
    have d1 : (j : Int) < 1000 := by omega
    clear hst hb HN IH HND HP1 HS1 HAB hcase n5 hj hmem t7 c0
    go_upto_region 2 with fail
    refine wp_region_plus (by kernel_rfl) (by kernel_rfl) ?_
    repeat (go_big_quiet_step (fail))
    refine wpQuiet_nil ?_
    intro v
    clear p6 pc n0 n6
    go_wp2
    go_ret
    exact ⟨false, rfl, hx.trans (plus_ext _ v), fun h => by cases h⟩
  have hcs : h.kind ≠ 7 ∨ (h.kind = 7 ∧ h.num ∉ S) := by
    by_cases t : h.kind = 7
    · exact .inr ⟨t, fun hm => hdup ⟨t, hm⟩⟩
    · exact .inl t
  clear hdup
  rcases hcs with t7 | ⟨t7, hmem⟩
  case' inl =>
    have e7 : (h.kind == 7) = false := by simpa using t7
    have hst3 : WSt w1 B gs gp S1 P1 := by
      rw [HS1.out, HP1.out, if_neg t7, if_neg (fun h => t7 h.1), List.append_nil, List.append_nil]
      exact hst
    obtain rfl : ab1 = ab := by rw [HAB.out, if_neg t7]
    have hx3 := hx
    have HBW3 := HBW1
    have HND3 := Lib.hid (fun q1 q2 => HND.out q1 q2 (fun t => absurd t t7))
    go_upto_region 8 with fail
    clear e7 t7 hst hx hb n0 n6 HS1 HP1 HAB HND HBW1 hcase
    generalize w1 = wz at *
  case' inr =>
    obtain ⟨j, hj⟩ := Int.eq_ofNat_of_zero_le (show 0 ≤ h.num by omega)
    have hj2 : j < 1000 := by omega
    have c0 : w1.cell? ⟨gs, j, none⟩ = some (.bool false) := by
      rw [hst.seen.cell, seenC_get _ _ hj2, ← hj, decide_eq_false hmem]
    have f0 : w1.frozen? ⟨gs, j, none⟩ = false := hst.seen.frozen j
    have HND3 := Lib.hid (fun q1 q2 => HND.out q1 q2 (fun _ => hmem))
    have hS1 := HS1.out
    rw [if_pos t7, hj] at hS1
    have HP2 := Lib.hid (show P1 = P ++ (if 0 < ab then [(ab, (j : Int))] else []) by rw [HP1.out, hj]; simp [t7])
    have hab1 := HAB.out
    rw [if_pos t7, hj] at hab1
    rw [t7] at n0
    rw [hj] at n6
    have p6 := cell_plus n6
    have pc := cell_plus c0
    have d1 : (j : Int) < 1000 := by omega
    clear HS1 HP1 HAB HND hcase hmem t7 hj
    go_upto_region 2 with fail
    refine wp_region_plus (by kernel_rfl) (by kernel_rfl) ?_
    repeat (go_big_quiet_step (fail))
    refine wpQuiet_nil ?_
    intro v
    have hxv := plus_ext _ v
    generalize plus w1 v = w2 at *
    replace c0 := hxv.cell c0
    replace n5 := hxv.cell n5
    replace n6 := hxv.cell n6
    replace hst := hst.ext hxv
    replace f0 : w2.frozen? ⟨gs, j, none⟩ = false := hst.seen.frozen j
    replace hx := hx.trans hxv
    replace hb := hb.ext hxv
    have HBW2 := Lib.hid (Nat.le_trans HBW1.out hxv.size)
    clear p6 pc n0 hxv HBW1 v
    have p6 := cell_plus n6
    go_upto_region 4 with fail
    refine wp_region_plus_tail 5 (by kernel_rfl) (by kernel_rfl) ?_
    simp only [List.take_succ_cons, List.take_zero, List.drop_succ_cons, List.drop_zero]
    repeat (go_big_quiet_step (fail))
    refine wpQuiet_nil ?_
    intro v
    have hxv := plus_ext _ v
    generalize plus w2 v = w3 at *
    replace c0 := hxv.cell c0
    replace n5 := hxv.cell n5
    replace n6 := hxv.cell n6
    replace hst := hst.ext hxv
    replace f0 : w3.frozen? ⟨gs, j, none⟩ = false := hst.seen.frozen j
    replace hx := hx.trans hxv
    replace hb := hb.ext hxv
    have HBW3 := Lib.hid (Nat.le_trans HBW2.out hxv.size)
    clear p6 hxv HBW2 v
    go_upto_region 5 with fail
    have hk4 : Keeps (· = gs) w3 (w3.setCell ⟨gs, j, none⟩ (.bool true)) := (Keeps.refl (· = gs) _).setCell (.inr rfl) _
    have hzg : z ≠ gs := hb.ne hst.seen (by decide)
    have hst4 : WSt (w3.setCell ⟨gs, j, none⟩ (.bool true)) B gs gp S1 P := by
      refine ⟨?_, ?_⟩
      · have := hst.seen.set j (.bool true)
        rw [seenC_set S j] at this
        rw [hS1]
        exact this
      · obtain ⟨v, h1, h2⟩ := hst.pairs
        exact ⟨v, h1.keeps hk4 (h1.ne hst.seen (by decide)), OwnR.keeps h2 hk4 (fun i hi hf => own_apart h2 hst.seen (by decide) (by rw [hi]; exact congrArg some hf))⟩
    generalize w3.setCell ⟨gs, j, none⟩ (.bool true) = w4 at *
    replace n5 := hk4.cellb n5 hzg
    replace n6 := hk4.cellb n6 hzg
    replace hx := hx.keep1 hk4 (by omega)
    replace hb := hb.keeps hk4 hzg
    have HBW4 := Lib.hid (Nat.le_trans HBW3.out hk4.size)
    clear hst f0 c0 hk4 hzg HBW3 hS1
    have hzgp : z ≠ gp := by
      obtain ⟨v, h1, _⟩ := hst4.pairs
      exact hb.ne h1 (by decide)
    have HND4 := HND3
    clear HND3
    by_cases t2 : 0 < ab
    case' neg =>
      have hst3 : WSt w4 B gs gp S1 P1 := by rw [HP2.out, if_neg t2, List.append_nil]; exact hst4
      have HND3 := HND4
      have hx3 := hx
      have HBW3 := HBW4
      clear hst4 HP2 hzgp HND4 hb HBW4
      go_upto_region 8 with fail
      clear n6 hx t2
      rw [← hab1]
      clear hab1
      generalize w4 = wz at *
    case' pos =>
      have hP1 := HP2.out
      rw [if_pos t2] at hP1
      have HP1h := Lib.hid hP1
      have HAB1 := Lib.hid hab1
      obtain ⟨pv, hpb, hpo⟩ := hst4.pairs
      have hseen := hst4.seen
      obtain ⟨A6, c6, rfl, hc6⟩ := OwnR.shape hpo
      rw [spR_len] at hpo hpb
      have hpl : P.length ≤ 1000000 := by
        have h1 := HLN.out
        rw [hP1, List.length_append] at h1
        simp at h1
        omega
      obtain ⟨FF, hFF⟩ : ∃ FF : Nat → Prop, ∀ k, FF k ↔ (Value.slice A6 P.length c6).ownBlock = some k := ⟨_, fun _ => Iff.rfl⟩
      have hFgp : ¬ FF gp := fun hf => own_apart hpo hpb (by decide) ((hFF _).1 hf)
      have hFgs : ¬ FF gs := fun hf => own_apart hpo hseen (by decide) ((hFF _).1 hf)
      have hFz : ¬ FF z := fun hf => own_apart hpo hb (by decide) ((hFF _).1 hf)
      have HSEEN := Lib.hid hseen
      have HPB := Lib.hid hpb
      have HPO := Lib.hid hpo
      have KF := Lib.hid hFF
      have HB := Lib.hid hb
      have S1 : ∀ W, Keeps FF w4 W → W.cell? ⟨gp, 0, none⟩ = some (.slice A6 P.length c6) := fun W hW => cell_keeps (hpb.cell 0) hW hFgp
      have S2 : ∀ W, Keeps FF w4 W → W.cell? ⟨z, 6, none⟩ = some (.int .i64 (j : Int)) := fun W hW => cell_keeps n6 hW hFz
      have HN5 := Lib.hid n5
      have HN6 := Lib.hid n6
      clear hseen hpb hpo hFF hb n5 n6 hst4 HP2 hP1 hab1
      go_upto_region 6 with fail
      refine wp_region_mid (fun W' => Keeps FF w4 W') 9 (by kernel_rfl) ?_
      refine wpAnyM_pure (i := 0) (oi := ⟨some 27, _, _, _, _, none⟩) (v := .pointer (some ⟨gp, 0, none⟩)) rfl (by kernel_rfl) (by kernel_rfl) (by kernel_rfl) (by decide) (fun _ _ _ h => h) (Keeps.refl FF w4).drew rfl (fun W => by go_simp; try rfl) ?_
      simp only [Act.put, List.setIfInBounds_toArray, List.set_cons_zero, List.set_cons_succ]
      refine wpAnyM_pure (i := 1) (oi := ⟨some 28, _, _, _, _, none⟩) (v := .pointer (some ⟨gp, 0, none⟩)) rfl (by kernel_rfl) (by kernel_rfl) (by kernel_rfl) (by decide) (fun _ _ _ h => h) (Keeps.refl FF w4).drew rfl (fun W => by go_simp; try rfl) ?_
      simp only [Act.put, List.setIfInBounds_toArray, List.set_cons_zero, List.set_cons_succ]
      refine wpAnyM_pure (i := 2) (oi := ⟨some 29, _, _, _, _, none⟩) (v := .pointer (some ⟨gp, 0, none⟩)) rfl (by kernel_rfl) (by kernel_rfl) (by kernel_rfl) (by decide) (fun _ _ _ h => h) (Keeps.refl FF w4).drew rfl (fun W => by go_simp; try rfl) ?_
      simp only [Act.put, List.setIfInBounds_toArray, List.set_cons_zero, List.set_cons_succ]
      refine wpAnyM_take (i := 3) (oi := ⟨some 30, _, _, _, _, none⟩) (v := .slice A6 P.length c6) [9] rfl (by kernel_rfl) (by kernel_rfl) (by kernel_rfl) (by kernel_rfl) (fun _ _ _ h => h) (Keeps.refl FF w4).drew (yieldsIf_value rfl (fun W hW => by have k5' := S1 W hW; go_simp; try rfl)) ?_
      simp only [Act.put, List.setIfInBounds_toArray, List.set_cons_zero, List.set_cons_succ]
      refine wpAnyM_pure (i := 4) (oi := ⟨some 31, _, _, _, _, none⟩) (v := .int .i64 ab) rfl (by kernel_rfl) (by kernel_rfl) (by kernel_rfl) (by decide) (fun _ _ _ h => h) (Keeps.refl FF w4).drew rfl (fun W => by go_simp; try rfl) ?_
      simp only [Act.put, List.setIfInBounds_toArray, List.set_cons_zero, List.set_cons_succ]
      refine wpAnyM_pure (i := 5) (oi := ⟨some 32, _, _, _, _, none⟩) (v := .pointer (some ⟨z, 6, none⟩)) rfl (by kernel_rfl) (by kernel_rfl) (by kernel_rfl) (by decide) (fun _ _ _ h => h) (Keeps.refl FF w4).drew rfl (fun W => by go_simp; try rfl) ?_
      simp only [Act.put, List.setIfInBounds_toArray, List.set_cons_zero, List.set_cons_succ]
      refine wpAnyM_take (i := 6) (oi := ⟨some 33, _, _, _, _, none⟩) (v := .int .i64 j) [7, 8, 9] rfl (by kernel_rfl) (by kernel_rfl) (by kernel_rfl) (by kernel_rfl) (fun _ _ _ h => h) (Keeps.refl FF w4).drew (yieldsIf_value rfl (fun W hW => by have k5' := S2 W hW; go_simp; try rfl)) ?_
      simp only [Act.put, List.setIfInBounds_toArray, List.set_cons_zero, List.set_cons_succ]
      refine wpAnyM_pure (i := 7) (oi := ⟨some 34, _, _, _, _, none⟩) (v := .agg #[.int .i64 ab, .int .i64 j]) rfl (by kernel_rfl) (by kernel_rfl) (by kernel_rfl) (by decide) (fun _ _ _ h => h) (Keeps.refl FF w4).drew rfl (fun W => by go_simp; try rfl) ?_
      simp only [Act.put, List.setIfInBounds_toArray, List.set_cons_zero, List.set_cons_succ]
      refine wpAnyM_step (i := 8) (by kernel_rfl) rfl (by decide) ?_
      refine wpl_onePr rfl _ rfl (ab, (j : Int)) rfl ?_
      intro g7 w7 hb7 hx7 e7 s7
      have hx47 : Ext w4 w7 := (Ext.drew (Ext.refl w4)).trans hx7
      refine stepQ_end ⟨Keeps.of_ext hx47, ?_⟩
      simp only [Act.put, List.setIfInBounds_toArray]
      refine wpAnyM_last3 (t := 10) (u := 11) (by kernel_rfl) rfl (by kernel_rfl) rfl (by kernel_rfl) rfl (by kernel_rfl) ?_
      refine wpList_appR rfl _ _ _ rfl B 84 _ 2 16 Tryd.underlying79 info_prZ rfl (by decide) (.slice A6 P.length c6) (spR P) rfl (OwnR.ext HPO.out hx47) g7 1 (spC (ab, (j : Int))) rfl rfl (fun i _ => by rw [hb7.cell]; simp [spC]) (spC_one2 _) (by rw [spR_len]; omega) (by rw [spR_len]; omega) (Nat.le_trans HBW4.out hx47.size) ?_
      intro v8 w8 hO8 hg8 hb8
      have hk8 : Keeps FF w4 w8 := (Keeps.of_ext hx47).grown hg8 (fun k hk => .inr ((KF.out k).2 hk))
      have hpb8 := HPB.out.keeps hk8 hFgp
      have hse8 := HSEEN.out.keeps hk8 hFgs
      have n58 := cell_keeps HN5.out hk8 hFz
      have hx8 : Ext W w8 := (hx.trans hx47).keeps (Keeps.of_grown hg8) (fun i hi e => by have := (OwnR.own HPO.out i e).1; omega)
      rw [show spR P ++ [spC (ab, (j : Int))] = spR P1 by rw [HP1h.out]; simp [spR]] at hO8
      obtain ⟨A8, c8, rfl, hc8⟩ := OwnR.shape hO8
      have hgpne := own_apart hO8 hpb8 (by decide)
      have hgsgp : gs ≠ gp := hse8.ne hpb8 (by decide)
      have HS8 := Lib.hid hse8
      have HO8 := Lib.hid hO8
      have HX8 := Lib.hid hx8
      have HB8 := Lib.hid (Nat.le_trans HBW4.out hk8.size)
      refine stepQ_end ?_
      simp only [Act.put]
      go_wp2
      refine stepQ_ok ?_
      have g0 : w8.cell? ⟨gp, 0, none⟩ = some (.slice A6 P.length c6) := hpb8.cell 0
      have f0 : w8.frozen? ⟨gp, 0, none⟩ = false := hpb8.frozen 0
      have HP8 := Lib.hid hpb8
      have HN58 := Lib.hid n58
      have n68 := cell_keeps HN6.out hk8 hFz
      clear HSEEN HPB HPO KF HB S1 S2 HN5 hse8 hpb8 hO8 hk8 hg8 hb8 hx47 hb7 hx7 e7 s7 hx hx8 n58 HBW4
      go_upto_region 8 with fail
      have hk9 : Keeps (· = gp) w8 (w8.setCell ⟨gp, 0, none⟩ (.slice A8 P1.length c8)) := (Keeps.refl (· = gp) _).setCell (.inr rfl) _
      have hst3 : WSt (w8.setCell ⟨gp, 0, none⟩ (.slice A8 P1.length c8)) B gs gp S1 P1 := by
        have ho8 := HO8.out
        rw [spR_len] at ho8 hgpne
        exact ⟨HS8.out.keeps hk9 hgsgp, _, HP8.out.set 0 _, OwnR.keeps ho8 hk9 (fun i hi hf => hgpne (by rw [hi]; exact congrArg some hf))⟩
      have n5 := hk9.cellb HN58.out hzgp
      have hx3 := HX8.out.keep1 hk9 (by omega)
      have HBW3 := Lib.hid (Nat.le_trans HB8.out hk9.size)
      have HND3 := HND4
      rw [← HAB1.out]
      clear hk9 HS8 HP8 HO8 HX8 HB8 HN58 n68 g0 f0 hgpne hgsgp HAB1 HP1h hFgp hFgs hFz t2 hpl hc6 hzgp HND4 HN6
      generalize w8.setCell ⟨gp, 0, none⟩ (.slice A8 P1.length c8) = wz at *
  all_goals
    have hst0 : WSt wz B gs gp (S1 ++ gnL (subs.take 0)) (P1 ++ prL ab1 (subs.take 0)) := by rw [List.take_zero, gnL, prL, List.append_nil, List.append_nil]; exact hst3
    have hnd0 : Hid ((gnL (subs.take 0)).Nodup ∧ ∀ x ∈ gnL (subs.take 0), x ∉ S1) := Lib.hid (by rw [List.take_zero, gnL]; exact ⟨List.nodup_nil, fun x hx => by cases hx⟩)
    have hb0 := HBW3.out
    clear hst3 HBW3
    go_upto_region 9 with fail
    clear n5
    go_loopw [43] (fun i wr => ∃ (k : Nat), k ≤ subs.length ∧ i = .int .i64 k ∧ WSt wr B gs gp (S1 ++ gnL (subs.take k)) (P1 ++ prL ab1 (subs.take k)) ∧ Hid ((gnL (subs.take k)).Nodup ∧ ∀ x ∈ gnL (subs.take k), x ∉ S1) ∧ Ext W wr ∧ B ≤ wr.heap.size) (fun i _ => subs.length - (intOf i).toNat)
    case atStart => exact ⟨0, Nat.zero_le _, rfl, hst0, hnd0, hx3, hb0⟩
    case round =>
      clear hst0 hnd0 hx3 hb0
      obtain ⟨k, hk, rfl, hst, HD, hxr, hbr⟩ := hrel
      by_cases hlt : k < subs.length
      · obtain ⟨g1, o1, sv, rfl, hat, hok⟩ := HN.out.get k hlt
        have hat1 := hat.ext hxr
        have hsl1 := Lib.hid hok.sl
        have hg := gnL_snoc (subs.take k) subs[k]
        have hp := prL_snoc (subs.take k) ab1 subs[k]
        rw [← take_snoc subs k hlt] at hg hp
        have HG := Lib.hid (show S1 ++ gnL (subs.take (k + 1)) = S1 ++ gnL (subs.take k) ++ gnN subs[k] by rw [hg, List.append_assoc])
        have HP := Lib.hid (show P1 ++ prL ab1 (subs.take (k + 1)) = P1 ++ prL ab1 (subs.take k) ++ prN ab1 subs[k] by rw [hp, List.append_assoc])
        have HDS := Lib.hid (show (gnN subs[k]).Nodup → (∀ x ∈ gnN subs[k], x ∉ S1 ++ gnL (subs.take k)) → (gnL (subs.take (k + 1))).Nodup ∧ ∀ x ∈ gnL (subs.take (k + 1)), x ∉ S1 from fun q1 q2 => by
          rw [hg]
          refine ⟨List.nodup_append.2 ⟨HD.out.1, q1, fun a ha b hb e => q2 b hb (by rw [← e]; exact List.mem_append_right _ ha)⟩, fun x hx => ?_⟩
          rcases List.mem_append.1 hx with hx | hx
          · exact HD.out.2 x hx
          · exact fun h2 => q2 x hx (List.mem_append_left _ h2))
        have hlen : (P1 ++ prL ab1 (subs.take k)).length + (gnN subs[k]).length ≤ 1000000 := by
          have h1 := HLN.out
          have h2 := gnL_take_len subs (k + 1)
          rw [hg, List.length_append] at h2
          have h3 := prL_len (subs.take k) ab1
          rw [List.length_append]
          omega
        have HC := Lib.hid (fun w' (hw : Ext wr w') => IH.out subs[k] (List.getElem_mem hlt) sv w' ab1 (S1 ++ gnL (subs.take k)) (P1 ++ prL ab1 (subs.take k)) hok (hxr.trans hw) (Nat.le_trans hbr hw.size) hlen (hst.ext hw))
        clear hst hat hok hg hp hlen HN IH HLN HND3 HD
        rw [← HG.out, ← HP.out] at HC
        generalize hSk : S1 ++ gnL (subs.take (k + 1)) = Sk at *
        generalize hPk : P1 ++ prL ab1 (subs.take (k + 1)) = Pk at *
        have HSK := Lib.hid hSk
        have HPK := Lib.hid hPk
        clear hSk hPk
        generalize S1 ++ gnL (subs.take k) = Sj at *
        generalize P1 ++ prL ab1 (subs.take k) = Pj at *
        have t1 : (k : Int) < (subs.length : Int) := by omega
        generalize subs[k] = nk at *
        generalize hnh : nk.h = hk' at *
        have HNH := Lib.hid hnh
        clear hnh
        go_upto_region 11 with (first
          | (refine wpl_loadNd rfl _ rfl g1 (o1 + k * 10) hk' sv rfl hat1 ?_)
          | (refine wpl_allocNd rfl rfl ?_; intro b w3 hb hx3 eb sb)
          | (refine wpl_storeNd rfl _ _ rfl rfl b hk' ⟨0, fun _ => false, 0, 0, 0, false⟩ sv _ rfl rfl hsl1.out hb ?_; intro w4 hb4 hk4))
        have hx34 := hx3.keep1 hk4 eb
        have HC2 := Lib.hid (HC.out w4 hx34)
        have hsz4 := hx34.size
        clear hb hx3 hk4 eb sb hat1 HC
        go_wp2_with (first
          | (refine wpl_loadNd rfl _ rfl b 0 hk' sv rfl hb4.nd ?_)
          | (go_at_call 47; refine HC2.out.mono ?_; rintro e w5 ⟨bq, rfl, hx5, hq5⟩; cases bq))
        · go_ret
          exact ⟨false, rfl, hx5, fun h => by cases h⟩
        · obtain ⟨q1, q2, q3⟩ := hq5 trivial
          have hb5 : B ≤ w5.heap.size := by have := q1.seen.lt; omega
          have hds := HDS.out q2 q3
          go_roundw
          case rel => exact ⟨k + 1, by omega, by go_num, by rw [HSK.out, HPK.out]; exact q1, Lib.hid hds, hx5, hb5⟩
          case measure => simp [intOf]; omega
      · have hkl : subs.take k = subs := List.take_of_length_le (by omega)
        rw [hkl] at hst HD
        have t1 : ¬ (k : Int) < (subs.length : Int) := by omega
        clear IH HN hkl HLN
        go_wp2
        go_ret
        obtain ⟨q1, q2⟩ := HND3.out HD.out.1 HD.out.2
        exact ⟨true, rfl, hxr, fun _ => ⟨hst, q1, q2⟩⟩

end Go.Proofs.YthddlhpndaffjaaDoor
