/- rank.Check, rank.Spans, trawlnum.SameSpans as contracts. Condition: tree and parse lie in memory, the tree has few nodes; the error values lie where they lie. How the spans of groups lie in one another, in plain words: a group's span lies within that of the group around it, each within the whole. No program. The spans of a parse, walked: fewer are a beginning of more; each lies within the whole. No program. Which piece Find tells: the leftmost, and the longest from there; in plain words. No program. -/
import Derived.Test.YtgfknlkpdiejgaaGreatDoorZRankedSpansAQ
import Derived.Test.YtgfknlkpdiejgaaGreatDoorZRankedSpansAG
import Derived.Test.YtgfknlkpdiejgaaGreatDoorZRankedSpansAL
namespace Go.Proofs.YtgfknlkpdiejgaaGreatDoor
open Go Go.RowKit

section
variable {s : ByteArray} {c e : Int} {x : Value}
def checkN (s : ByteArray) (c e : Int) (n : Nd) (p : Ps) : Bool := decide (chkN n = 0) && parseN s.size (leafB s c e) p n

def nowhere : Int × Int := (-1, -1)
def spans0 (d : Pd) (g : Nat) : List (Int × Int) := (List.replicate (g + 1) (-1, -1)).set 0 (d.a, d.b)
def spansN (n : Nd) (p : Ps) (g : Nat) : List (Int × Int) := walkN p n (spans0 p.d g)
theorem spansN_len (n : Nd) (p : Ps) (g : Nat) : (spansN n p g).length = g + 1 := by unfold spansN spans0; rw [walkN_len]; simp
def okSp (s : ByteArray) (c e : Int) (n : Nd) (p : Ps) (g : Int) : Bool := decide (0 ≤ g) && decide (g ≤ 999) && checkN s c e n p
theorem info_spZ : (Tryz.prog.info? 52).map (fun i => (i.zero, i.size, i.bytes)) = some (some (.agg [Value.int .i64 0, Value.int .i64 0].toArray), 2, 16) := by kernel_rfl
/-- What rank.Spans answers. -/
def RetSp (w : World) (ok : Bool) (l : List (Int × Int)) (r : Ending) (w' : World) : Prop :=
  (ok = false ∧ r = .returned (.tuple #[.slice none 0 0, .bool false]) ∧ Ext w w') ∨ (ok = true ∧ ∃ g cp, r = .returned (.tuple #[.slice (some ⟨g, 0, none⟩) l.length cp, .bool true]) ∧ OwnSp w' w.heap.size (.slice (some ⟨g, 0, none⟩) l.length cp) l ∧ Ext w w')

theorem rep_set (k m : Nat) (hk : k < m) : (List.replicate k ((-1 : Int), (-1 : Int)) ++ List.replicate (m - k) (0, 0)).set k (-1, -1) = List.replicate (k + 1) (-1, -1) ++ List.replicate (m - (k + 1)) (0, 0) := by
  rw [List.set_append_right _ _ (by simp), List.length_replicate, Nat.sub_self, show m - k = (m - (k + 1)) + 1 by omega, List.replicate_succ, List.set_cons_zero, List.replicate_succ', List.append_assoc]
  rfl

end

end Go.Proofs.YtgfknlkpdiejgaaGreatDoor

namespace Go.Proofs.YtgfknlkpdiejgaaGreatDoor
open Go Go.RowKit

/-! ### the numbers of groups; which group stands right below which -/
mutual
def gnN : Nd → List Int
  | .mk h subs => (if h.kind = 7 then [h.num] else []) ++ gnL subs
def gnL : List Nd → List Int
  | [] => []
  | n :: r => gnN n ++ gnL r
end
mutual
def prN : Int → Nd → List (Int × Int)
  | ab, .mk h subs => (if h.kind = 7 ∧ 0 < ab then [(ab, h.num)] else []) ++ prL (if h.kind = 7 then h.num else ab) subs
def prL : Int → List Nd → List (Int × Int)
  | _, [] => []
  | ab, n :: r => prN ab n ++ prL ab r
end
theorem gnL_mem : ∀ (l : List Nd) (x : Int), x ∈ gnL l ↔ ∃ n ∈ l, x ∈ gnN n
  | [], x => by rw [gnL]; simp
  | n :: r, x => by
    rw [gnL, List.mem_append, gnL_mem r x]
    simp
theorem prL_mem : ∀ (ab : Int) (l : List Nd) (q : Int × Int), q ∈ prL ab l ↔ ∃ n ∈ l, q ∈ prN ab n
  | ab, [], q => by rw [prL]; simp
  | ab, n :: r, q => by
    rw [prL, List.mem_append, prL_mem ab r q]
    simp
theorem gn_pos : ∀ (n : Nd), formB n = true → ∀ x ∈ gnN n, 0 < x ∧ x ≤ 999 := by
  refine Nd.ind fun h subs ih hf x hx => ?_
  have hcase := form_cases hf
  rw [gnN, List.mem_append] at hx
  rcases hx with hx | hx
  · by_cases t : h.kind = 7
    · rw [if_pos t, List.mem_singleton] at hx
      omega
    · rw [if_neg t] at hx
      cases hx
  · obtain ⟨m, hm, hx⟩ := (gnL_mem subs x).1 hx
    exact ih m hm (form_sub hf m hm) x hx
/-- A pair of a tree below a group: a pair of the tree alone, or the group above and one of the tree. -/
theorem pr_split : ∀ (n : Nd) (ab : Int) (q : Int × Int), q ∈ prN ab n → q ∈ prN 0 n ∨ (q.1 = ab ∧ q.2 ∈ gnN n) := by
  refine Nd.ind fun h subs ih ab q hq => ?_
  rw [prN, List.mem_append] at hq
  rw [prN, gnN, List.mem_append, List.mem_append]
  by_cases t : h.kind = 7
  · rw [if_pos t] at hq ⊢
    rw [if_pos t]
    rcases hq with hq | hq
    · by_cases t2 : 0 < ab
      · rw [if_pos ⟨t, t2⟩, List.mem_singleton] at hq
        subst hq
        exact .inr ⟨rfl, .inl (by simp)⟩
      · rw [if_neg (fun h => t2 h.2)] at hq
        cases hq
    · exact .inl (.inr hq)
  · rw [if_neg t] at hq ⊢
    rcases hq with hq | hq
    · rw [if_neg (fun h => t h.1)] at hq
      cases hq
    · obtain ⟨n, hn, hq⟩ := (prL_mem ab subs q).1 hq
      rcases ih n hn ab q hq with h1 | ⟨h1, h2⟩
      · exact .inl (.inr ((prL_mem 0 subs q).2 ⟨n, hn, h1⟩))
      · exact .inr ⟨h1, .inr ((gnL_mem subs _).2 ⟨n, hn, h2⟩)⟩
theorem pr_mem : ∀ (n : Nd) (ab : Int) (q : Int × Int), q ∈ prN ab n → (q.1 = ab ∨ q.1 ∈ gnN n) ∧ q.2 ∈ gnN n := by
  refine Nd.ind fun h subs ih ab q hq => ?_
  rw [prN, List.mem_append] at hq
  rw [gnN, List.mem_append, List.mem_append]
  rcases hq with hq | hq
  · by_cases t : h.kind = 7 ∧ 0 < ab
    · rw [if_pos t, List.mem_singleton] at hq
      subst hq
      exact ⟨.inl rfl, .inl (by rw [if_pos t.1]; simp)⟩
    · rw [if_neg t] at hq
      cases hq
  · obtain ⟨n, hn, hq⟩ := (prL_mem _ subs q).1 hq
    obtain ⟨h1, h2⟩ := ih n hn _ q hq
    refine ⟨?_, .inr ((gnL_mem subs _).2 ⟨n, hn, h2⟩)⟩
    rcases h1 with h1 | h1
    · by_cases t : h.kind = 7
      · rw [if_pos t] at h1 ⊢
        exact .inr (.inl (by simp [h1]))
      · rw [if_neg t] at h1
        exact .inl h1
    · exact .inr (.inr ((gnL_mem subs _).2 ⟨n, hn, h1⟩))
theorem pr_mem0 (n : Nd) (hf : formB n = true) (q : Int × Int) (hq : q ∈ prN 0 n) : q.1 ∈ gnN n ∧ q.2 ∈ gnN n := by
  -- the first of a pair is never 0, for 0 is laid aside
  have key : ∀ (n : Nd) (ab : Int), formB n = true → ∀ q ∈ prN ab n, 0 < q.1 := by
    refine Nd.ind fun h subs ih ab hf q hq => ?_
    have hcase := form_cases hf
    rw [prN, List.mem_append] at hq
    rcases hq with hq | hq
    · by_cases t : h.kind = 7 ∧ 0 < ab
      · rw [if_pos t, List.mem_singleton] at hq
        subst hq
        exact t.2
      · rw [if_neg t] at hq
        cases hq
    · obtain ⟨n, hn, hq⟩ := (prL_mem _ subs q).1 hq
      exact ih n hn _ (form_sub hf n hn) q hq
  obtain ⟨h1, h2⟩ := pr_mem n 0 q hq
  have := key n 0 hf q hq
  exact ⟨h1.resolve_left (by omega), h2⟩
theorem gn_apart : ∀ (l : List Nd), (gnL l).Nodup → ∀ a ∈ l, ∀ b ∈ l, a ≠ b → ∀ x ∈ gnN a, x ∉ gnN b
  | [], _, a, ha, _, _, _, _, _ => by cases ha
  | n :: r, hd, a, ha, b, hb, hab, x, hx => by
    rw [gnL, List.nodup_append] at hd
    obtain ⟨_, h2, h3⟩ := hd
    rcases List.mem_cons.1 ha with rfl | ha'
    · rcases List.mem_cons.1 hb with rfl | hb'
      · exact absurd rfl hab
      · exact fun hxb => h3 x hx x ((gnL_mem r x).2 ⟨b, hb', hxb⟩) rfl
    · rcases List.mem_cons.1 hb with rfl | hb'
      · exact fun hxb => h3 x hxb x ((gnL_mem r x).2 ⟨a, ha', hx⟩) rfl
      · exact gn_apart r h2 a ha' b hb' hab x hx
theorem gn_sub : ∀ (l : List Nd), (gnL l).Nodup → ∀ a ∈ l, (gnN a).Nodup
  | [], _, a, ha => by cases ha
  | n :: r, hd, a, ha => by
    rw [gnL, List.nodup_append] at hd
    rcases List.mem_cons.1 ha with rfl | ha'
    · exact hd.1
    · exact gn_sub r hd.2.1 a ha'

/-! ### spans by number -/
def getS (l : List (Int × Int)) (x : Int) : Int × Int := l.getD x.toNat (-1, -1)
theorem getS_set {l : List (Int × Int)} {n y : Int} (v : Int × Int) (hn : 0 ≤ n) (hy : 0 ≤ y) (hne : n ≠ y) : getS (l.set n.toNat v) y = getS l y := by
  unfold getS
  rw [List.getD_eq_getElem?_getD, List.getD_eq_getElem?_getD, List.getElem?_set_ne (by omega)]
theorem getS_same {l : List (Int × Int)} {n : Int} (v : Int × Int) (hn : 0 ≤ n) (hl : n < l.length) : getS (l.set n.toNat v) n = v := by
  unfold getS
  rw [List.getD_eq_getElem?_getD, List.getElem?_set_self (by omega)]
  rfl
theorem unsetL_inv (Φ : List (Int × Int) → Prop) : ∀ (subs : List Nd) (l : List (Int × Int)), (∀ n ∈ subs, ∀ l, Φ l → Φ (unsetN n l)) → Φ l → Φ (unsetL subs l)
  | [], l, _, h0 => by rw [unsetL]; exact h0
  | n :: r, l, h, h0 => by
    rw [unsetL]
    exact unsetL_inv Φ r _ (fun m hm => h m (List.mem_cons_of_mem _ hm)) (h n (by simp) l h0)
theorem unset_other : ∀ (n : Nd), formB n = true → ∀ (y : Int), 0 ≤ y → y ∉ gnN n → ∀ l, getS (unsetN n l) y = getS l y := by
  refine Nd.ind fun h subs ih hf y hy hn l => ?_
  have hcase := form_cases hf
  rw [gnN, List.mem_append] at hn
  rw [unsetN]
  refine unsetL_inv (fun l' => getS l' y = getS l y) subs _ (fun n hm l' h' => ?_) ?_
  · rw [ih n hm (form_sub hf n hm) y hy (fun h2 => hn (.inr ((gnL_mem subs y).2 ⟨n, hm, h2⟩))) l', h']
  · split
    · rename_i t
      refine getS_set _ (by omega) hy (fun e => hn (.inl ?_))
      rw [if_pos t.1]
      simp [e]
    · rfl
theorem unset_stays : ∀ (n : Nd), formB n = true → ∀ (y : Int), 0 ≤ y → ∀ l, getS l y = (-1, -1) → getS (unsetN n l) y = (-1, -1) := by
  refine Nd.ind fun h subs ih hf y hy l hl => ?_
  have hcase := form_cases hf
  rw [unsetN]
  refine unsetL_inv (fun l' => getS l' y = (-1, -1)) subs _ (fun n hm l' h' => ih n hm (form_sub hf n hm) y hy l' h') ?_
  split
  · rename_i t
    by_cases e : h.num = y
    · subst e
      exact getS_same _ hy t.2
    · rw [getS_set _ (by omega) hy e]
      exact hl
  · exact hl
theorem unset_or (n : Nd) (hf : formB n = true) (y : Int) (hy : 0 ≤ y) (l : List (Int × Int)) : getS (unsetN n l) y = getS l y ∨ getS (unsetN n l) y = (-1, -1) := by
  revert hf l
  revert n
  refine Nd.ind fun h subs ih hf l => ?_
  have hcase := form_cases hf
  rw [unsetN]
  refine unsetL_inv (fun l' => getS l' y = getS l y ∨ getS l' y = (-1, -1)) subs _ (fun n hm l' h' => ?_) ?_
  · rcases ih n hm (form_sub hf n hm) l' with h1 | h1
    · rw [h1]; exact h'
    · exact .inr h1
  · split
    · rename_i t
      by_cases e : h.num = y
      · subst e
        exact .inr (getS_same _ hy t.2)
      · rw [getS_set _ (by omega) hy e]
        exact .inl rfl
    · exact .inl rfl
theorem unset_all : ∀ (n : Nd), formB n = true → ∀ (y : Int), y ∈ gnN n → ∀ (l : List (Int × Int)), l.length = 1000 → getS (unsetN n l) y = (-1, -1) := by
  refine Nd.ind fun h subs ih hf y hy l hl => ?_
  have hcase := form_cases hf
  have hpos := gn_pos _ hf y hy
  rw [gnN, List.mem_append] at hy
  rw [unsetN]
  obtain ⟨l1, h1⟩ : ∃ l1, l1 = (if h.kind = 7 ∧ h.num < l.length then l.set h.num.toNat (-1, -1) else l) := ⟨_, rfl⟩
  have hl1 : l1.length = 1000 := by rw [h1]; split <;> simp [hl]
  rw [← h1]
  rcases hy with hy | hy
  · by_cases t : h.kind = 7
    · rw [if_pos t, List.mem_singleton] at hy
      subst hy
      have h2 : getS l1 h.num = (-1, -1) := by
        rw [h1, if_pos ⟨t, by omega⟩]
        exact getS_same _ (by omega) (by omega)
      exact unsetL_inv (fun l' => getS l' h.num = (-1, -1)) subs _ (fun n hm l' h' => unset_stays n (form_sub hf n hm) _ (by omega) l' h') h2
    · rw [if_neg t] at hy
      cases hy
  · have key : ∀ (s : List Nd) (l' : List (Int × Int)), (∀ n ∈ s, n ∈ subs) → l'.length = 1000 → y ∈ gnL s → getS (unsetL s l') y = (-1, -1) := by
      intro s
      induction s with
      | nil => intro l' _ _ h2; rw [gnL] at h2; cases h2
      | cons n r ihr =>
        intro l' hs hl' h2
        rw [unsetL]
        rw [gnL, List.mem_append] at h2
        have hlen : (unsetN n l').length = 1000 := by rw [unsetN_len]; exact hl'
        by_cases h3 : y ∈ gnL r
        · exact ihr _ (fun m hm => hs m (List.mem_cons_of_mem _ hm)) hlen h3
        · have h4 := ih n (hs n (by simp)) (form_sub hf n (hs n (by simp))) y (h2.resolve_right h3) l' hl'
          exact unsetL_inv (fun l' => getS l' y = (-1, -1)) r _ (fun m hm l'' h' => unset_stays m (form_sub hf m (hs m (List.mem_cons_of_mem _ hm))) _ (by omega) l'' h') h4
    exact key subs l1 (fun _ hm => hm) hl1 hy

/-! ### a parse's walk -/
section
variable {sz : Int} {L : Hd → Int → Int → Bool}
theorem parse_in {p : Ps} {n : Nd} (hp : parseN sz L p n = true) : 0 ≤ p.d.a ∧ p.d.a ≤ p.d.b ∧ p.d.b ≤ sz := by
  obtain ⟨d, ps⟩ := p
  obtain ⟨h, subs⟩ := n
  rw [parseN, Bool.and_eq_true] at hp
  have := hp.1
  unfold guardP at this
  simp only [Bool.and_eq_true, decide_eq_true_eq] at this
  exact ⟨this.1.1.1, this.1.1.2, this.1.2⟩
theorem rowN_le : ∀ (ps : List Ps) (nds : List Nd) (a b : Int), rowN sz L ps nds a b = true → a ≤ b
  | [], _, a, b, h => by rw [rowN, decide_eq_true_eq] at h; omega
  | _ :: _, [], _, _, h => by rw [rowN] at h; cases h
  | p :: r, n :: nr, a, b, h => by
    rw [rowN, Bool.and_eq_true, Bool.and_eq_true, decide_eq_true_eq] at h
    have h1 := parse_in h.1.2
    have h2 := rowN_le r nr _ b h.2
    omega
theorem rowN_in : ∀ (ps : List Ps) (nds : List Nd) (a b : Int), rowN sz L ps nds a b = true → ∀ k (hk : k < ps.length), a ≤ ps[k].d.a ∧ ps[k].d.b ≤ b
  | [], _, _, _, _, k, hk => absurd hk (Nat.not_lt_zero _)
  | _ :: _, [], _, _, h, _, _ => by rw [rowN] at h; cases h
  | p :: r, n :: nr, a, b, h, k, hk => by
    rw [rowN, Bool.and_eq_true, Bool.and_eq_true, decide_eq_true_eq] at h
    have h1 := parse_in h.1.2
    have h2 := rowN_le r nr _ b h.2
    cases k with
    | zero => exact ⟨by simp; omega, by simpa using h2⟩
    | succ k =>
      have h3 := rowN_in r nr _ b h.2 k (by simpa using hk)
      simp only [List.getElem_cons_succ]
      omega
theorem walkR_inv (Φ : List (Int × Int) → Prop) : ∀ (ps : List Ps) (nds : List Nd) (l : List (Int × Int)), (∀ k (hk : k < ps.length) (hk' : k < nds.length) l, Φ l → Φ (walkN ps[k] nds[k] l)) → Φ l → Φ (walkR ps nds l)
  | [], _, l, _, h0 => by rw [walkR]; exact h0
  | _ :: _, [], l, _, h0 => by rw [walkR]; exact h0
  | p :: r, n :: nr, l, h, h0 => by
    rw [walkR]
    refine walkR_inv Φ r nr _ (fun k hk hk' l hl => ?_) (h 0 (by simp) (by simp) l h0)
    exact h (k + 1) (by simpa using hk) (by simpa using hk') l hl
/-- What a node with Subs has below it. -/
theorem nds_mem {h : Hd} {subs : List Nd} {d : Pd} {ps : List Ps} (hf : formB (.mk h subs) = true) (ho : okB h subs.length d ps = true) (k : Nat) (hk : k < (ndsOf h subs d ps.length).length) : (ndsOf h subs d ps.length)[k] ∈ subs := by
  have hcase := form_cases hf
  have hmem : (ndsOf h subs d ps.length)[k] ∈ ndsOf h subs d ps.length := List.getElem_mem hk
  generalize (ndsOf h subs d ps.length)[k] = x at *
  unfold ndsOf at hmem
  by_cases t6 : h.kind = 6
  · rw [if_pos t6, List.mem_singleton] at hmem
    unfold okB at ho
    rw [if_pos t6, decide_eq_true_eq] at ho
    have hj : d.k.toNat < subs.length := by omega
    rw [hmem, List.getD_eq_getElem?_getD, List.getElem?_eq_getElem hj]
    exact List.getElem_mem hj
  · rw [if_neg t6] at hmem
    by_cases t8 : h.kind = 8
    · rw [if_pos t8] at hmem
      have hx := List.eq_of_mem_replicate hmem
      have hj : 0 < subs.length := by omega
      rw [hx, List.getD_eq_getElem?_getD, List.getElem?_eq_getElem hj]
      exact List.getElem_mem hj
    · rw [if_neg t8] at hmem
      exact hmem

def In (d : Pd) (s : Int × Int) : Prop := d.a ≤ s.1 ∧ s.1 ≤ s.2 ∧ s.2 ≤ d.b
/-- What a walk leaves at a number: what was there, nowhere, or a span within the parse's; a number that the tree has not keeps what it had. -/
theorem walk_at : ∀ (p : Ps) (n : Nd), formB n = true → parseN sz L p n = true → ∀ (y : Int), 0 ≤ y → ∀ (l : List (Int × Int)), l.length = 1000 →
    (y ∉ gnN n → getS (walkN p n l) y = getS l y) ∧ (getS (walkN p n l) y = getS l y ∨ getS (walkN p n l) y = (-1, -1) ∨ In p.d (getS (walkN p n l) y)) := by
  refine Ps.ind fun d ps ih n hf hp y hy l hl => ?_
  obtain ⟨h, subs⟩ := n
  have hcase := form_cases hf
  have hd := parse_in hp
  simp only [Ps.d] at hd ⊢
  by_cases hk : 5 ≤ h.kind
  case neg =>
    have := parse_leaf hp hk
    subst this
    rw [walkN, if_neg (by omega), walkR]
    exact ⟨fun _ => rfl, .inl rfl⟩
  obtain ⟨ho, hr⟩ := parse_inv hp hk
  rw [walkN]
  obtain ⟨l1, h1⟩ : ∃ l1, l1 = (if h.kind = 7 then setS h.num (d.a, d.b) (unsetL subs l) else l) := ⟨_, rfl⟩
  rw [← h1]
  have hl1 : l1.length = 1000 := by
    rw [h1]
    split
    · rw [setS_len, unsetL_len]; exact hl
    · exact hl
  have hA : (y ∉ gnN (.mk h subs) → getS l1 y = getS l y) ∧ (getS l1 y = getS l y ∨ getS l1 y = (-1, -1) ∨ In d (getS l1 y)) := by
    by_cases t : h.kind = 7
    case neg => rw [h1, if_neg t]; exact ⟨fun _ => rfl, .inl rfl⟩
    have hul : (unsetL subs l).length = 1000 := by rw [unsetL_len]; exact hl
    rw [h1, if_pos t]
    unfold setS
    rw [if_pos (by omega)]
    by_cases e : h.num = y
    · subst e
      rw [getS_same _ hy (by omega)]
      exact ⟨fun hn => absurd (by rw [gnN, if_pos t]; simp) hn, .inr (.inr ⟨Int.le_refl _, hd.2.1, Int.le_refl _⟩)⟩
    · rw [getS_set _ (by omega) hy e]
      refine ⟨fun hn => ?_, ?_⟩
      · refine unsetL_inv (fun l' => getS l' y = getS l y) subs _ (fun n hm l' h' => ?_) rfl
        rw [unset_other n (form_sub hf n hm) y hy (fun h2 => hn (by rw [gnN, List.mem_append]; exact .inr ((gnL_mem subs y).2 ⟨n, hm, h2⟩))) l', h']
      · have := unsetL_inv (fun l' => getS l' y = getS l y ∨ getS l' y = (-1, -1)) subs l (fun n hm l' h' => by
          rcases unset_or n (form_sub hf n hm) y hy l' with h2 | h2
          · rw [h2]; exact h'
          · exact .inr h2) (.inl rfl)
        exact this.imp id .inl
  have hstep := walkR_inv (fun l' => l'.length = 1000 ∧ (y ∉ gnN (.mk h subs) → getS l' y = getS l y) ∧ (getS l' y = getS l y ∨ getS l' y = (-1, -1) ∨ In d (getS l' y))) ps (ndsOf h subs d ps.length) l1 (fun k hk hk' l' h' => by
    obtain ⟨_, hpk⟩ := rowN_get _ _ _ _ hr k hk
    have hmem := nds_mem hf ho k hk'
    have hin := rowN_in _ _ _ _ hr k hk
    obtain ⟨h2, h3⟩ := ih ps[k] (List.getElem_mem hk) _ (form_sub hf _ hmem) hpk y hy l' h'.1
    refine ⟨by rw [walkN_len]; exact h'.1, fun hn => ?_, ?_⟩
    · rw [h2 (fun h4 => hn (by rw [gnN, List.mem_append]; exact .inr ((gnL_mem subs y).2 ⟨_, hmem, h4⟩))), h'.2.1 hn]
    · rcases h3 with h3 | h3 | h3
      · rw [h3]; exact h'.2.2
      · exact .inr (.inl h3)
      · exact .inr (.inr ⟨by have := h3.1; omega, h3.2.1, by have := h3.2.2; omega⟩)) ⟨hl1, hA⟩
  exact hstep.2

def Nest (l : List (Int × Int)) (q : Int × Int) : Prop := getS l q.2 = (-1, -1) ∨ (0 ≤ (getS l q.1).1 ∧ (getS l q.1).1 ≤ (getS l q.2).1 ∧ (getS l q.2).2 ≤ (getS l q.1).2)
theorem walk_nest : ∀ (p : Ps) (n : Nd), formB n = true → parseN sz L p n = true → (gnN n).Nodup → ∀ (l : List (Int × Int)), l.length = 1000 →
    (∀ q ∈ prN 0 n, Nest l q) → ∀ q ∈ prN 0 n, Nest (walkN p n l) q := by
  refine Ps.ind fun d ps ih n hf hp hnd l hl hq0 => ?_
  obtain ⟨h, subs⟩ := n
  have hcase := form_cases hf
  have hd := parse_in hp
  simp only [Ps.d] at hd
  by_cases hk : 5 ≤ h.kind
  case neg =>
    have := parse_leaf hp hk
    subst this
    rw [walkN, if_neg (by omega), walkR]
    exact hq0
  obtain ⟨ho, hr⟩ := parse_inv hp hk
  rw [gnN, List.nodup_append] at hnd
  obtain ⟨_, hnL, hap⟩ := hnd
  by_cases t : h.kind = 7
  · -- a group
    have hs1 : subs.length = 1 := by omega
    obtain ⟨s, rfl⟩ := len_one hs1
    have hfs := form_sub hf s (by simp)
    have hps : ps.length = 1 := by
      unfold okB at ho
      rw [if_neg (by omega), if_pos t, decide_eq_true_eq] at ho
      exact ho
    obtain ⟨q1, rfl⟩ := len_one hps
    have hnds : ndsOf h [s] d 1 = [s] := by unfold ndsOf; rw [if_neg (by omega), if_neg (by omega)]
    simp only [List.length_singleton] at hr ho
    rw [hnds, rowN_one, Bool.and_eq_true, Bool.and_eq_true, decide_eq_true_eq, decide_eq_true_eq] at hr
    obtain ⟨⟨ha, hpq⟩, hb⟩ := hr
    rw [walkN, if_pos t, List.length_singleton, hnds, walkR, walkR, unsetL, unsetL]
    obtain ⟨l1, h1⟩ : ∃ l1, l1 = setS h.num (d.a, d.b) (unsetN s l) := ⟨_, rfl⟩
    rw [← h1]
    have hul : (unsetN s l).length = 1000 := by rw [unsetN_len]; exact hl
    have hl1 : l1.length = 1000 := by rw [h1, setS_len]; exact hul
    have hsn : (gnN s).Nodup := gn_sub [s] hnL s (by simp)
    have hgs : h.num ∉ gnN s := fun h2 => by
      rw [if_pos t] at hap
      exact hap h.num (by simp) h.num ((gnL_mem [s] _).2 ⟨s, by simp, h2⟩) rfl
    have h1num : getS l1 h.num = (d.a, d.b) := by
      rw [h1]; unfold setS
      rw [if_pos (by omega)]
      exact getS_same _ (by omega) (by omega)
    have h1s : ∀ y ∈ gnN s, getS l1 y = (-1, -1) := fun y hy => by
      have hp1 := gn_pos s hfs y hy
      rw [h1]; unfold setS
      rw [if_pos (by omega), getS_set _ (by omega) (by omega) (fun e => hgs (by rw [e]; exact hy))]
      exact unset_all s hfs y hy l hl
    intro q hq
    rw [prN, if_neg (fun h => by omega), if_pos t, List.nil_append, prL_mem] at hq
    obtain ⟨s', hs', hq⟩ := hq
    rw [List.mem_singleton] at hs'
    subst hs'
    rcases pr_split s' h.num q hq with hq | ⟨he, hq⟩
    · exact ih q1 (by simp) s' hfs hpq hsn l1 hl1 (fun q' hq' => .inl (h1s _ (pr_mem0 s' hfs q' hq').2)) q hq
    · have hp2 := gn_pos s' hfs q.2 hq
      have ha1 := (walk_at q1 s' hfs hpq h.num (by omega) l1 hl1).1 hgs
      have hb1 := (walk_at q1 s' hfs hpq q.2 (by omega) l1 hl1).2
      unfold Nest
      rw [he, ha1, h1num]
      rw [h1s _ hq] at hb1
      rcases hb1 with hb1 | hb1 | hb1
      · exact .inl hb1
      · exact .inl hb1
      · right
        have := hb1.1
        have := hb1.2.2
        exact ⟨hd.1, by simp only; omega, by simp only; omega⟩
  · -- a row
    rw [walkN, if_neg t]
    intro q hq
    rw [prN, if_neg (fun h => t h.1), if_neg t, List.nil_append, prL_mem] at hq
    obtain ⟨s, hs, hq⟩ := hq
    have hfs := form_sub hf s hs
    have hl0 : ∀ q ∈ prN 0 s, Nest l q := fun q hq => hq0 q (by rw [prN, if_neg (fun h => t h.1), if_neg t, List.nil_append, prL_mem]; exact ⟨s, hs, hq⟩)
    have hstep := walkR_inv (fun l' => l'.length = 1000 ∧ ∀ q ∈ prN 0 s, Nest l' q) ps (ndsOf h subs d ps.length) l (fun k hk hk' l' h' => by
      obtain ⟨_, hpk⟩ := rowN_get _ _ _ _ hr k hk
      have hmem := nds_mem hf ho k hk'
      refine ⟨by rw [walkN_len]; exact h'.1, ?_⟩
      by_cases e : s = (ndsOf h subs d ps.length)[k]
      · rw [← e] at hpk ⊢
        exact ih ps[k] (List.getElem_mem hk) s hfs hpk (gn_sub subs hnL s hs) l' h'.1 h'.2
      · intro q hq
        obtain ⟨h2, h3⟩ := pr_mem0 s hfs q hq
        have p2 := gn_pos s hfs _ h2
        have p3 := gn_pos s hfs _ h3
        have e1 := (walk_at ps[k] _ (form_sub hf _ hmem) hpk q.1 (by omega) l' h'.1).1 (gn_apart subs hnL s hs _ hmem e _ h2)
        have e2 := (walk_at ps[k] _ (form_sub hf _ hmem) hpk q.2 (by omega) l' h'.1).1 (gn_apart subs hnL s hs _ hmem e _ h3)
        have := h'.2 q hq
        unfold Nest at this ⊢
        rw [e1, e2]
        exact this) ⟨hl, hl0⟩
    exact hstep.2 q hq

/-- What RankNests asks. -/
theorem nests (n : Nd) (p : Ps) (hf : formB n = true) (hp : parseN sz L p n = true) :
    getS (spansN n p 999) 0 = (p.d.a, p.d.b) ∧ (∀ y, 0 ≤ y → getS (spansN n p 999) y = (-1, -1) ∨ In p.d (getS (spansN n p 999) y)) ∧ ((gnN n).Nodup → ∀ q ∈ prN 0 n, Nest (spansN n p 999) q) := by
  have hl : (spans0 p.d 999).length = 1000 := by unfold spans0; rw [List.length_set, List.length_replicate]
  have hd := parse_in hp
  have h0 : getS (spans0 p.d 999) 0 = (p.d.a, p.d.b) := by unfold spans0; exact getS_same (n := 0) _ (by omega) (by rw [List.length_replicate]; decide)
  have hy : ∀ y, 0 < y → getS (spans0 p.d 999) y = (-1, -1) := fun y hy => by
    unfold spans0
    rw [show (0 : Nat) = (0 : Int).toNat from rfl, getS_set _ (by omega) (by omega) (by omega)]
    unfold getS
    rw [List.getD_eq_getElem?_getD, List.getElem?_replicate]
    split <;> rfl
  unfold spansN
  have hin : In p.d (p.d.a, p.d.b) := ⟨Int.le_refl _, hd.2.1, Int.le_refl _⟩
  refine ⟨?_, fun y h1 => ?_, fun hnd => ?_⟩
  · rw [(walk_at p n hf hp 0 (by omega) _ hl).1 (fun h => by have := gn_pos n hf 0 h; omega), h0]
  · have := (walk_at p n hf hp y h1 _ hl).2
    rcases this with h2 | h2 | h2
    · rw [h2]
      by_cases e : y = 0
      · subst e; rw [h0]; exact .inr hin
      · exact .inl (hy y (by omega))
    · exact .inl h2
    · exact .inr h2
  · refine walk_nest p n hf hp hnd _ hl (fun q hq => .inl ?_)
    have := gn_pos n hf _ (pr_mem0 n hf q hq).2
    exact hy _ this.1
end

end Go.Proofs.YtgfknlkpdiejgaaGreatDoor

namespace Go.Proofs.YtgfknlkpdiejgaaGreatDoor
open Go Go.RowKit

theorem set_any (num : Int) (x : Int × Int) (l : List (Int × Int)) : (if num < l.length then l.set num.toNat x else l) = l.set num.toNat x := by
  split
  · rfl
  · rw [List.set_eq_of_length_le (by omega)]
theorem set_kind (k num : Int) (x : Int × Int) (l : List (Int × Int)) : (if k = 7 ∧ num < l.length then l.set num.toNat x else l) = if k = 7 then l.set num.toNat x else l := by
  by_cases hk : k = 7
  · rw [if_pos hk, ← set_any]
    by_cases h : num < l.length
    · rw [if_pos ⟨hk, h⟩, if_pos h]
    · rw [if_neg (fun e => h e.2), if_neg h]
  · rw [if_neg hk, if_neg (fun e => hk e.1)]
mutual
theorem unsetN_take : ∀ (n : Nd) (m : Nat) (l : List (Int × Int)), (unsetN n l).take m = unsetN n (l.take m)
  | .mk h subs, m, l => by
    rw [unsetN, unsetN, unsetL_take, set_kind, set_kind]
    congr 1
    split
    · rw [List.take_set]
    · rfl
theorem unsetL_take : ∀ (ns : List Nd) (m : Nat) (l : List (Int × Int)), (unsetL ns l).take m = unsetL ns (l.take m)
  | [], m, l => by rw [unsetL, unsetL]
  | n :: r, m, l => by rw [unsetL, unsetL, unsetL_take r, unsetN_take n]
end
theorem setS_take (num : Int) (x : Int × Int) (m : Nat) (l : List (Int × Int)) : (setS num x l).take m = setS num x (l.take m) := by
  unfold setS
  rw [set_any, set_any, List.take_set]
mutual
theorem walkN_take : ∀ (p : Ps) (n : Nd) (m : Nat) (l : List (Int × Int)), (walkN p n l).take m = walkN p n (l.take m)
  | .mk d ps, .mk h subs, m, l => by
    rw [walkN, walkN, walkR_take]
    congr 1
    split
    · rw [setS_take, unsetL_take]
    · rfl
theorem walkR_take : ∀ (ps : List Ps) (ns : List Nd) (m : Nat) (l : List (Int × Int)), (walkR ps ns l).take m = walkR ps ns (l.take m)
  | [], _, m, l => by rw [walkR, walkR]
  | _ :: _, [], m, l => by rw [walkR, walkR]
  | p :: r, n :: nr, m, l => by rw [walkR, walkR, walkR_take r nr, walkN_take p n]
end
section
variable {Q : Int × Int → Prop}
def AllQ (Q : Int × Int → Prop) (l : List (Int × Int)) : Prop := ∀ s ∈ l, Q s
theorem AllQ.set {l : List (Int × Int)} (h : AllQ Q l) (k : Nat) (x : Int × Int) (hx : Q x) : AllQ Q (l.set k x) := fun s hs => by
  rcases List.mem_or_eq_of_mem_set hs with h1 | h1
  · exact h s h1
  · rw [h1]; exact hx
mutual
theorem unsetN_all (h0 : Q (-1, -1)) : ∀ (n : Nd) (l : List (Int × Int)), AllQ Q l → AllQ Q (unsetN n l)
  | .mk h subs, l, hl => by
    rw [unsetN, set_kind]
    refine unsetL_all h0 subs _ ?_
    split
    · exact hl.set _ _ h0
    · exact hl
theorem unsetL_all (h0 : Q (-1, -1)) : ∀ (ns : List Nd) (l : List (Int × Int)), AllQ Q l → AllQ Q (unsetL ns l)
  | [], l, hl => by rw [unsetL]; exact hl
  | n :: r, l, hl => by rw [unsetL]; exact unsetL_all h0 r _ (unsetN_all h0 n l hl)
end
theorem walk_all {sz : Int} {L : Hd → Int → Int → Bool} (h0 : Q (-1, -1)) : ∀ (p : Ps) (n : Nd), formB n = true → parseN sz L p n = true → (∀ s, In p.d s → Q s) → ∀ (l : List (Int × Int)), AllQ Q l → AllQ Q (walkN p n l) := by
  refine Ps.ind fun d ps ih n hf hp hQ l hl => ?_
  obtain ⟨h, subs⟩ := n
  have hcase := form_cases hf
  have hd := parse_in hp
  simp only [Ps.d] at hd hQ
  by_cases hk : 5 ≤ h.kind
  case neg =>
    have := parse_leaf hp hk
    subst this
    rw [walkN, if_neg (by omega), walkR]
    exact hl
  obtain ⟨ho, hr⟩ := parse_inv hp hk
  rw [walkN]
  obtain ⟨l1, h1⟩ : ∃ l1, l1 = (if h.kind = 7 then setS h.num (d.a, d.b) (unsetL subs l) else l) := ⟨_, rfl⟩
  rw [← h1]
  have hl1 : AllQ Q l1 := by
    rw [h1]
    split
    · unfold setS
      rw [set_any]
      exact (unsetL_all h0 subs l hl).set _ _ (hQ _ ⟨Int.le_refl _, hd.2.1, Int.le_refl _⟩)
    · exact hl
  exact walkR_inv (AllQ Q) ps (ndsOf h subs d ps.length) l1 (fun k hk hk' l' h' => by
    obtain ⟨_, hpk⟩ := rowN_get _ _ _ _ hr k hk
    have hmem := nds_mem hf ho k hk'
    have hin := rowN_in _ _ _ _ hr k hk
    exact ih ps[k] (List.getElem_mem hk) _ (form_sub hf _ hmem) hpk (fun s hs => hQ s ⟨by have := hs.1; omega, hs.2.1, by have := hs.2.2; omega⟩) l' h') hl1
end
/-- What Find and Spans of layer 22 tell of a piece. -/
noncomputable def toldN (L : Hd → Int → Int → Bool) (t : Nd) (a b : Nat) (g : Nat) : List (Int × Int) := (walkN (bestN L t a b) t (List.replicate (g + 1) (-1, -1))).set 0 (a, b)
theorem toldN_len (L : Hd → Int → Int → Bool) (t : Nd) (a b : Nat) (g : Nat) : (toldN L t a b g).length = g + 1 := by
  unfold toldN
  rw [List.length_set, walkN_len, List.length_replicate]
theorem toldN_take (L : Hd → Int → Int → Bool) (t : Nd) (a b : Nat) (g k : Nat) (h : k ≤ g) : (toldN L t a b g).take (k + 1) = toldN L t a b k := by
  unfold toldN
  rw [List.take_set, walkN_take, List.take_replicate, Nat.min_eq_left (by omega)]
theorem toldN_head (L : Hd → Int → Int → Bool) (t : Nd) (a b : Nat) (g : Nat) : (toldN L t a b g)[0]? = some ((a : Int), (b : Int)) := by
  have h := toldN_len L t a b g
  unfold toldN at h ⊢
  rw [List.length_set] at h
  rw [List.getElem?_set_self (by omega)]
theorem toldN_in {n : Nat} {L : Hd → Int → Int → Bool} (hL : LOk n L) (t : Nd) (a b g : Nat) (hf : formB t = true) (ht : tkN L t a b) (hb : b ≤ n) : ∀ s ∈ toldN L t a b g, s = (-1, -1) ∨ ((a : Int) ≤ s.1 ∧ s.1 ≤ s.2 ∧ s.2 ≤ b) := by
  have hab := (tkN_mon hL t a b ht).1
  have hp := best_ok (L0 := L) hL (fun _ _ _ h => h) t hf a b ht hb
  obtain ⟨d1, d2⟩ := best_d (L := L) t a b
  unfold toldN
  refine AllQ.set (Q := fun s => s = (-1, -1) ∨ ((a : Int) ≤ s.1 ∧ s.1 ≤ s.2 ∧ s.2 ≤ b)) ?_ 0 _ (.inr ⟨by simp, by simp only; omega, by simp⟩)
  refine walk_all (.inl rfl) _ t hf hp (fun s hs => .inr ?_) _ (fun s hs => .inl (List.eq_of_mem_replicate hs))
  unfold In at hs
  rw [d1, d2] at hs
  exact hs

end Go.Proofs.YtgfknlkpdiejgaaGreatDoor

namespace Go.Proofs.YtgfknlkpdiejgaaGreatDoor
open Go Go.RowKit Classical

theorem grP_cases (p : Pl) : ∀ b, (grP p b = -1 ∧ ∀ i, i < b → p i = false) ∨ ∃ k, k < b ∧ grP p b = (k : Int) ∧ p k = true ∧ ∀ i, k < i → i < b → p i = false
  | 0 => .inl ⟨rfl, fun _ h => absurd h (Nat.not_lt_zero _)⟩
  | b + 1 => by
    by_cases h : p b = true
    · exact .inr ⟨b, Nat.lt_succ_self _, by rw [grP, if_pos h], h, fun i h1 h2 => by omega⟩
    · have hb : p b = false := by simpa using h
      rcases grP_cases p b with ⟨h1, h2⟩ | ⟨k, h1, h2, h3, h4⟩
      · exact .inl ⟨by rw [grP, if_neg h]; exact h1, fun i hi => by
          by_cases e : i = b
          · rw [e]; exact hb
          · exact h2 i (by omega)⟩
      · exact .inr ⟨k, by omega, by rw [grP, if_neg h]; exact h2, h3, fun i h5 h6 => by
          by_cases e : i = b
          · rw [e]; exact hb
          · exact h4 i h5 (by omega)⟩
/-- The greatest place to which a relation leads from a place; -1: none. -/
noncomputable def endR (n : Nat) (R : Rl) (a : Nat) : Int := grP (img R (oneP a)) (n + 1)
theorem endR_cases {n : Nat} {R : Rl} (hR : Mon n R) {a : Nat} (ha : a ≤ n) : (endR n R a = -1 ∧ ∀ j : Int, ¬ R a j) ∨ ∃ k : Nat, endR n R a = (k : Int) ∧ R a k ∧ a ≤ k ∧ k ≤ n ∧ ∀ j : Int, R a j → j ≤ k := by
  rcases grP_cases (img R (oneP a)) (n + 1) with ⟨h1, h2⟩ | ⟨k, h1, h2, h3, h4⟩
  · refine .inl ⟨h1, fun j hj => ?_⟩
    have h5 := hR a j hj
    have h6 := h2 j.toNat (by omega)
    rw [Bool.eq_false_iff] at h6
    exact h6 (img_one.2 (by rw [Int.toNat_of_nonneg (by omega)]; exact hj))
  · have h5 := img_one.1 h3
    refine .inr ⟨k, h2, h5, by have := hR a k h5; omega, by omega, fun j hj => ?_⟩
    have h6 := hR a j hj
    refine Int.not_lt.1 fun h7 => ?_
    have h8 := h4 j.toNat (by omega) (by omega)
    rw [Bool.eq_false_iff] at h8
    exact h8 (img_one.2 (by rw [Int.toNat_of_nonneg (by omega)]; exact hj))
theorem last_end {n nw : Nat} {R : Rl} (hR : Mon n R) {a : Nat} (ha : a ≤ n) (hnw : n / 64 < nw) : lastV (img R (oneP a)) (img R (oneP a)) nw a = endR n R a := by
  have e : andP (img R (oneP a)) (img R (oneP a)) = img R (oneP a) := by funext i; unfold andP; rw [Bool.and_self]
  have hn : n + 1 ≤ 64 * nw := by omega
  have h1 : grP (img R (oneP a)) (64 * nw) = endR n R a := grP_skip (64 * nw) hn (fun i h1 _ => by
    rw [Bool.eq_false_iff]
    intro h2
    have := hR a i (img_one.1 h2)
    omega)
  unfold lastV
  rw [e, h1]
  rcases endR_cases hR ha with ⟨h2, _⟩ | ⟨k, h2, _, h3, _, _⟩
  · rw [h2, if_pos (by omega)]
  · rw [h2, if_neg (by omega)]
/-- The leftmost and longest piece from a place on. -/
noncomputable def findF (n : Nat) (R : Rl) : Nat → Nat → Option (Nat × Nat)
  | 0, _ => none
  | f + 1, i => if 0 ≤ endR n R i then some (i, (endR n R i).toNat) else findF n R f (i + 1)
noncomputable def findR (n : Nat) (R : Rl) (i : Nat) : Option (Nat × Nat) := findF n R (n + 1 - i) i
theorem find_end {n : Nat} {R : Rl} {i : Nat} (h : n < i) : findR n R i = none := by
  unfold findR
  rw [show n + 1 - i = 0 by omega, findF]
theorem find_hit {n : Nat} {R : Rl} {i k : Nat} (hi : i ≤ n) (h : endR n R i = (k : Int)) : findR n R i = some (i, k) := by
  unfold findR
  rw [show n + 1 - i = (n - i) + 1 by omega, findF, if_pos (by omega), h, Int.toNat_natCast]
theorem find_miss {n : Nat} {R : Rl} {i : Nat} (hi : i ≤ n) (h : endR n R i = -1) : findR n R i = findR n R (i + 1) := by
  unfold findR
  rw [show n + 1 - i = (n - i) + 1 by omega, findF, if_neg (by omega), show n + 1 - (i + 1) = n - i by omega]
theorem findF_some {n : Nat} {R : Rl} (hR : Mon n R) : ∀ (f i a b : Nat), i + f ≤ n + 1 → findF n R f i = some (a, b) → i ≤ a ∧ R a b ∧ a ≤ b ∧ b ≤ n
  | 0, i, a, b, _, h => by rw [findF] at h; cases h
  | f + 1, i, a, b, hf, h => by
    rw [findF] at h
    rcases endR_cases hR (show i ≤ n by omega) with ⟨h2, _⟩ | ⟨k, h2, h3, h4, h5, _⟩
    · rw [if_neg (by omega)] at h
      obtain ⟨p1, p2⟩ := findF_some hR f (i + 1) a b (by omega) h
      exact ⟨by omega, p2⟩
    · rw [if_pos (by omega), h2, Int.toNat_natCast] at h
      simp only [Option.some.injEq, Prod.mk.injEq] at h
      obtain ⟨rfl, rfl⟩ := h
      exact ⟨Nat.le_refl _, h3, h4, h5⟩
theorem findR_some {n : Nat} {R : Rl} (hR : Mon n R) {i a b : Nat} (h : findR n R i = some (a, b)) : i ≤ a ∧ R a b ∧ a ≤ b ∧ b ≤ n := by
  by_cases hi : i ≤ n
  · exact findF_some hR _ i a b (by omega) h
  · rw [find_end (by omega)] at h; cases h
/-- What Find and Spans tell. -/
noncomputable def fndL (L : Hd → Int → Int → Bool) (n : Nat) (t : Nd) (i g : Nat) : Option (List (Int × Int)) := (findR n (tkN L t) i).map fun p => toldN L t p.1 p.2 g
noncomputable def spnL (L : Hd → Int → Int → Bool) (t : Nd) (a b g : Nat) : Option (List (Int × Int)) := if a ≤ b ∧ tkN L t a b then some (toldN L t a b g) else none

end Go.Proofs.YtgfknlkpdiejgaaGreatDoor
