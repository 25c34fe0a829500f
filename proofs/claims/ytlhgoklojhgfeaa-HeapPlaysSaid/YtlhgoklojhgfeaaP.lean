/- Plain laws of a binary heap in a list: the order among parent and child while an element moves up or down; nothing of Go.
   Conditions: the comparison is a strict weak order. -/
set_option linter.unusedVariables false
namespace Go.HeapP

/-- A strict weak order, as a Bool function. -/
structure Swo {α : Type} (lt : α → α → Bool) : Prop where
  asymm : ∀ a b, lt a b = true → lt b a = false
  trans : ∀ a b c, lt b a = false → lt c b = false → lt c a = false

variable {α : Type} {lt : α → α → Bool}

theorem Swo.irrefl (h : Swo lt) (a : α) : lt a a = false := by
  cases e : lt a a with
  | false => rfl
  | true => have := h.asymm a a e; rw [e] at this; exact this

/-- Parent and child in order: the child at i does not come before its parent. -/
def Edge (lt : α → α → Bool) (xs : List α) (i : Nat) : Prop := ∀ x p, xs[i]? = some x → xs[(i - 1) / 2]? = some p → lt x p = false

/-- All edges whose parent is at lo or behind it. -/
def From (lt : α → α → Bool) (xs : List α) (lo : Nat) : Prop := ∀ i, 0 < i → lo ≤ (i - 1) / 2 → Edge lt xs i

/-- On the way up: all edges but the one above i; and i's children do not come before i's parent. -/
structure UpInv (lt : α → α → Bool) (xs : List α) (i : Nat) : Prop where
  edge : ∀ j, 0 < j → j ≠ i → Edge lt xs j
  skip : 0 < i → ∀ j, (j - 1) / 2 = i → 0 < j → ∀ x p, xs[j]? = some x → xs[(i - 1) / 2]? = some p → lt x p = false

/-- On the way down from lo: all edges from lo on but those below i; and i's children do not come before i's parent. -/
structure DownInv (lt : α → α → Bool) (xs : List α) (lo i : Nat) : Prop where
  edge : ∀ j, 0 < j → lo ≤ (j - 1) / 2 → (j - 1) / 2 ≠ i → Edge lt xs j
  skip : 0 < i → lo ≤ (i - 1) / 2 → ∀ j, (j - 1) / 2 = i → 0 < j → ∀ x p, xs[j]? = some x → xs[(i - 1) / 2]? = some p → lt x p = false

theorem get_sw {xs : List α} {i j : Nat} {a b : α} (hij : i ≠ j) (hi : i < xs.length) (hj : j < xs.length) (k : Nat) :
    ((xs.set i b).set j a)[k]? = if k = j then some a else if k = i then some b else xs[k]? := by
  rw [List.getElem?_set]
  by_cases h : j = k
  · subst h
    rw [if_pos rfl, if_pos rfl]
    simp [hj]
  · rw [if_neg h, if_neg (Ne.symm h), List.getElem?_set]
    by_cases h' : i = k
    · subst h'
      rw [if_pos rfl, if_pos rfl]
      simp [hi]
    · rw [if_neg h', if_neg (Ne.symm h')]

theorem lt_of_get {xs : List α} {i : Nat} {x : α} (h : xs[i]? = some x) : i < xs.length := (List.getElem?_eq_some_iff.1 h).1

/-- An exchange keeps the elements. -/
theorem sw_perm {xs : List α} {i j : Nat} {a b : α} (hij : i ≠ j) (hi : xs[i]? = some a) (hj : xs[j]? = some b) : ((xs.set i b).set j a).Perm xs := by
  classical
  have hl := lt_of_get hi
  have hm := lt_of_get hj
  have ha : xs[i] = a := by have := List.getElem?_eq_getElem hl; rw [hi] at this; exact (Option.some.inj this).symm
  have hb : xs[j] = b := by have := List.getElem?_eq_getElem hm; rw [hj] at this; exact (Option.some.inj this).symm
  apply List.perm_iff_count.2
  intro c
  have hj' : j < (xs.set i b).length := by simpa using hm
  have e1 : ((xs.set i b))[j] = b := by rw [List.getElem_set_ne hij]; exact hb
  rw [List.count_set hj', List.count_set hl, e1, ha]
  have ca : 0 < xs.count a := List.count_pos_iff.2 (ha ▸ List.getElem_mem hl)
  have cb : 0 < xs.count b := List.count_pos_iff.2 (hb ▸ List.getElem_mem hm)
  by_cases h1 : a == c <;> by_cases h2 : b == c <;> simp only [h1, h2, if_true, if_false, Bool.false_eq_true] <;> (try simp only [beq_iff_eq] at h1 h2) <;> (try subst h1) <;> (try subst h2) <;> omega

/-- One round up. -/
theorem up_step (hl : Swo lt) {xs : List α} {i : Nat} {x p : α} (h : UpInv lt xs i) (hi : 0 < i) (hx : xs[i]? = some x) (hp : xs[(i - 1) / 2]? = some p) (hlt : lt x p = true) :
    UpInv lt ((xs.set i p).set ((i - 1) / 2) x) ((i - 1) / 2) := by
  have hne : i ≠ (i - 1) / 2 := by omega
  have hil := lt_of_get hx
  have hpl := lt_of_get hp
  have hpx := hl.asymm _ _ hlt
  constructor
  · intro j hj hjp y q hy hq
    rw [get_sw hne hil hpl] at hy hq
    by_cases ej : j = i
    · subst ej
      rw [if_neg hne, if_pos rfl] at hy
      rw [if_pos rfl] at hq
      cases hy; cases hq
      exact hpx
    · rw [if_neg hjp, if_neg ej] at hy
      by_cases eq : (j - 1) / 2 = (i - 1) / 2
      · rw [if_pos eq] at hq
        cases hq
        -- the sibling: it did not come before the old parent
        have hs := h.edge j hj ej y p hy (by rw [eq]; exact hp)
        exact hl.trans x p y hpx hs
      · rw [if_neg eq] at hq
        by_cases ei : (j - 1) / 2 = i
        · rw [if_pos ei] at hq
          cases hq
          exact h.skip hi j ei hj y p hy hp
        · rw [if_neg ei] at hq
          exact h.edge j hj ej y q hy hq
  · intro hpp j hjp hj y q hy hq
    rw [get_sw hne hil hpl] at hy hq
    rw [if_neg (by omega), if_neg (by omega)] at hq
    -- the grandparent does not come after the parent
    have hg := h.edge ((i - 1) / 2) hpp (Ne.symm hne) p q hp hq
    by_cases ej : j = i
    · subst ej
      rw [if_neg hne, if_pos rfl] at hy
      cases hy
      exact hg
    · rw [if_neg (by omega), if_neg ej] at hy
      have hs := h.edge j hj ej y p hy (by rw [hjp]; exact hp)
      exact hl.trans q p y hg hs

/-- At the top, or in order with its parent: the whole is in order. -/
theorem up_end {xs : List α} {i : Nat} (h : UpInv lt xs i) (he : 0 < i → Edge lt xs i) : From lt xs 0 := by
  intro j hj _
  by_cases e : j = i
  · subst e; exact he hj
  · exact h.edge j hj e

/-- A new element at the end. -/
theorem up_start {xs : List α} {x : α} (h : From lt xs 0) : UpInv lt (xs ++ [x]) xs.length := by
  have old : ∀ {k : Nat} {y : α}, k ≠ xs.length → (xs ++ [x])[k]? = some y → xs[k]? = some y := by
    intro k y hk hy
    have := lt_of_get hy
    rw [List.length_append, List.length_singleton] at this
    rwa [List.getElem?_append_left (by omega)] at hy
  constructor
  · intro j hj hne y p hy hp
    have hy' := old hne hy
    have hjl := lt_of_get hy'
    exact h j hj (Nat.zero_le _) y p hy' (old (by omega) hp)
  · intro hi j hji hj y p hy hp
    have := lt_of_get hy
    rw [List.length_append, List.length_singleton] at this
    omega

/-- One round down: i and the child c that comes first are exchanged. -/
theorem down_step (hl : Swo lt) {xs : List α} {lo i c : Nat} {x y : α} (h : DownInv lt xs lo i) (hlo : lo ≤ i) (hc : (c - 1) / 2 = i) (hc0 : 0 < c) (hx : xs[i]? = some x) (hy : xs[c]? = some y)
    (hlt : lt y x = true) (hsib : ∀ d z, (d - 1) / 2 = i → 0 < d → xs[d]? = some z → lt z y = false) :
    DownInv lt ((xs.set i y).set c x) lo c := by
  have hne : i ≠ c := by omega
  have hil := lt_of_get hx
  have hcl := lt_of_get hy
  constructor
  · intro j hj hjl hjc z q hz hq
    rw [get_sw hne hil hcl] at hz hq
    rw [if_neg hjc] at hq
    by_cases e1 : j = c
    · subst e1
      rw [if_pos rfl] at hz
      rw [if_pos hc] at hq
      cases hz; cases hq
      exact hl.asymm _ _ hlt
    · rw [if_neg e1] at hz
      by_cases e2 : j = i
      · subst e2
        rw [if_pos rfl] at hz
        cases hz
        rw [if_neg (by omega)] at hq
        exact h.skip hj hjl c hc hc0 _ q hy hq
      · rw [if_neg e2] at hz
        by_cases e3 : (j - 1) / 2 = i
        · rw [if_pos e3] at hq
          cases hq
          exact hsib j z e3 hj hz
        · rw [if_neg e3] at hq
          exact h.edge j hj hjl e3 z q hz hq
  · intro _ hcl' j hjc hj z q hz hq
    rw [get_sw hne hil hcl] at hz hq
    rw [hc, if_neg hne, if_pos rfl] at hq
    cases hq
    rw [if_neg (by omega), if_neg (by omega)] at hz
    exact h.edge j hj (by omega) (by omega) z _ hz (by rw [hjc]; exact hy)

theorem down_end {xs : List α} {lo i : Nat} (h : DownInv lt xs lo i) (he : ∀ j, 0 < j → (j - 1) / 2 = i → Edge lt xs j) : From lt xs lo := by
  intro j hj hjl
  by_cases e : (j - 1) / 2 = i
  · exact he j hj e
  · exact h.edge j hj hjl e

theorem down_start {xs : List α} {lo : Nat} (h : From lt xs (lo + 1)) : DownInv lt xs lo lo := by
  constructor
  · intro j hj hjl hne
    exact h j hj (by omega)
  · intro h0 hl
    omega

/-- Another element at the head: the edges below the head's children are as they were. -/
theorem From.head {xs : List α} (h : From lt xs 0) (x : α) : From lt (xs.set 0 x) 1 := by
  intro j hj hjl y p hy hp
  rw [List.getElem?_set_ne (by omega)] at hy hp
  exact h j hj (Nat.zero_le _) y p hy hp
theorem From.mono {xs : List α} {lo lo' : Nat} (h : From lt xs lo) (hl : lo ≤ lo') : From lt xs lo' := fun i hi hlo => h i hi (Nat.le_trans hl hlo)
theorem From.take {xs : List α} {lo : Nat} (h : From lt xs lo) (n : Nat) : From lt (xs.take n) lo := by
  intro j hj hjl y p hy hp
  rw [List.getElem?_take] at hy hp
  split at hy
  · split at hp
    · exact h j hj hjl y p hy hp
    · cases hp
  · cases hy
theorem From.late {xs : List α} {lo : Nat} (h : xs.length ≤ 2 * lo + 1) : From lt xs lo := by
  intro j hj hjl y p hy hp
  have := lt_of_get hy
  omega

/-- The head of a heap: nothing comes before it. -/
theorem head_first (hl : Swo lt) {xs : List α} (h : From lt xs 0) {r : α} (hr : xs[0]? = some r) : ∀ (i : Nat) (x : α), xs[i]? = some x → lt x r = false := by
  intro i
  induction i using Nat.strongRecOn with
  | _ i ih =>
    intro x hx
    by_cases h0 : i = 0
    · subst h0
      rw [hr] at hx
      cases hx
      exact hl.irrefl _
    · have hpl : (i - 1) / 2 < xs.length := by have := lt_of_get hx; omega
      have hp : xs[(i - 1) / 2]? = some xs[(i - 1) / 2] := List.getElem?_eq_getElem hpl
      exact hl.trans _ _ _ (ih ((i - 1) / 2) (by omega) _ hp) (h i (by omega) (Nat.zero_le _) x _ hx hp)

end Go.HeapP
