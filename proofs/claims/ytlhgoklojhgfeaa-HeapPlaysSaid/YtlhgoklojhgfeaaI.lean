/- The heap as a list in the order of pushing: Push, Pop, Peek, Len by that list.
   Conditions: at most 100,000 elements; the pushes are numbered upward. -/
import Derived.Test.YtlhgoklojhgfeaaH
namespace Go.Proofs.Ytlhgoklojhgfeaa
open Go.RowKit Go.HeapW Go.HeapP
set_option linter.unusedSimpArgs false
set_option linter.unusedVariables false

/-- l: what the heap holds, in the order of pushing. -/
structure Num (l : List It) (next : Int) : Prop where
  up : l.Pairwise (fun a b => a.s < b.s)
  lt : ∀ x ∈ l, x.s < next
  n0 : 0 ≤ next
  n1 : next ≤ 1000000

theorem Num.nil : Num [] 0 := ⟨List.Pairwise.nil, by simp, by omega, by omega⟩
theorem Num.push {l : List It} {next k n : Int} (h : Num l next) (hn : next < 1000000) : Num (l ++ [⟨k, n, next⟩]) (next + 1) := by
  refine ⟨?_, ?_, by have := h.n0; omega, by omega⟩
  · rw [List.pairwise_append]
    refine ⟨h.up, List.pairwise_singleton _ _, ?_⟩
    intro a ha b hb
    rw [List.mem_singleton] at hb
    subst hb
    exact h.lt a ha
  · intro x hx
    rw [List.mem_append, List.mem_singleton] at hx
    rcases hx with hx | rfl
    · have := h.lt x hx; omega
    · show next < next + 1; omega
theorem Num.sub {l l' : List It} {next : Int} (h : Num l next) (hs : l'.Sublist l) : Num l' next :=
  ⟨h.up.sublist hs, fun x hx => h.lt x (hs.subset hx), h.n0, h.n1⟩
theorem Num.nodup {l : List It} {next : Int} (h : Num l next) : l.Nodup := h.up.imp (fun hab e => by subst e; omega)
/-- Two elements of one number are one. -/
theorem Num.inj {l : List It} {next : Int} (h : Num l next) : ∀ {a b : It}, a ∈ l → b ∈ l → a.s = b.s → a = b := by
  have := h.up
  clear h
  induction this with
  | nil => intro a b ha; cases ha
  | cons hx _ ih =>
    intro a b ha hb e
    rw [List.mem_cons] at ha hb
    rcases ha with rfl | ha <;> rcases hb with rfl | hb
    · rfl
    · have := hx b hb; omega
    · have := hx a ha; omega
    · exact ih ha hb e

/-- x is the element of l that comes first. -/
def IsMin (σ : Int → Int) (l : List It) (x : It) : Prop := x ∈ l ∧ ∀ y ∈ l, bef σ y x = false

theorem IsMin.unique {σ : Int → Int} {l : List It} {next : Int} {x y : It} (h : Num l next) (hx : IsMin σ l x) (hy : IsMin σ l y) : x = y := by
  have h1 := hx.2 y hy.1
  have h2 := hy.2 x hx.1
  rw [bef_not] at h1 h2
  exact h.inj hx.1 hy.1 (by omega)

/-- The heap at hb, its slice v, holds l. -/
def Heap (w : World) (hb base f : Nat) (σ : Int → Int) (v : Value) (l : List It) (next : Int) : Prop :=
  HObj w hb (fv f) v next ∧ Num l next ∧ ∃ xs, HRow w base v xs ∧ From (bef σ) xs 0 ∧ xs.Perm l

/-- The blocks that a heap's method may write. -/
abbrev foot (hb : Nat) (v : Value) : Nat → Prop := fun j => j = hb ∨ v.ownBlock = some j
/-- The new slice lies in the old row or in a new one. -/
def Own (w : World) (v v' : Value) : Prop := ∀ g, v'.ownBlock = some g → v.ownBlock = some g ∨ w.heap.size ≤ g

theorem Own.refl (w : World) (v : Value) : Own w v v := fun _ h => Or.inl h
theorem Own.trans {w w' : World} {u v x : Value} (h : Own w u v) (hs : w.heap.size ≤ w'.heap.size) (k : Own w' v x) : Own w u x := fun g hg => by
  rcases k g hg with h1 | h1
  · exact h g h1
  · right; omega
/-- Two calls on one heap, one behind the other. -/
theorem foot_trans {w w1 w2 : World} {hb : Nat} {v v1 : Value} (h : Fr (foot hb v) w w1) (ho : Own w v v1) (k : Fr (foot hb v1) w1 w2) : Fr (foot hb v) w w2 :=
  h.step k (fun _ _ h => h) (fun i hi h => by
    rcases h with h | h
    · exact Or.inl h
    · rcases ho i h with h1 | h1
      · exact Or.inr h1
      · omega)

theorem Heap.keep {S : Nat → Prop} {w w' : World} {hb base f : Nat} {σ : Int → Int} {v : Value} {l : List It} {next : Int} (h : Heap w hb base f σ v l next) (hf : Fr S w w') (h1 : ¬ S hb) (h2 : ∀ g, v.ownBlock = some g → ¬ S g) : Heap w' hb base f σ v l next := by
  obtain ⟨hO, hN, xs, hR, hF, hP⟩ := h
  exact ⟨hf.keep hO h1, hN, xs, hf.owns hR h2, hF, hP⟩
theorem Heap.below {w w' : World} {hb base f : Nat} {σ : Int → Int} {v : Value} {l : List It} {next : Int} (h : Heap w hb base f σ v l next) (hf : Below w.heap.size w w') : Heap w' hb base f σ v l next :=
  h.keep (Fr.of_below (S := fun _ => False) hf) (fun x => x) (fun _ _ x => x)
theorem Heap.lt {w : World} {hb base f : Nat} {σ : Int → Int} {v : Value} {l : List It} {next : Int} (h : Heap w hb base f σ v l next) : hb < w.heap.size := lt_of_block h.1
theorem Heap.row {w : World} {hb base f : Nat} {σ : Int → Int} {v : Value} {l : List It} {next : Int} (h : Heap w hb base f σ v l next) : ∀ g, v.ownBlock = some g → base ≤ g ∧ g < w.heap.size := by
  obtain ⟨_, _, xs, hR, _⟩ := h
  exact fun g hg => hR.lt g hg
theorem Heap.ne {w : World} {hb base f : Nat} {σ : Int → Int} {v : Value} {l : List It} {next : Int} (h : Heap w hb base f σ v l next) : v.ownBlock ≠ some hb := by
  obtain ⟨hO, _, xs, hR, _⟩ := h
  exact owns_ne hR hO (by decide)

theorem Heap.start (f : Nat) (σ : Int → Int) (w w' : World) (base : Nat) (h : HObj w' w.heap.size (fv f) (.slice none 0 0) 0) : Heap w' w.heap.size base f σ (.slice none 0 0) [] 0 :=
  ⟨h, Num.nil, [], World.ownsRow_nil _ _ _ _, fun i _ _ x p hx _ => by simp at hx, List.Perm.refl _⟩

theorem new_l (f : Nat) (σ : Int → Int) (base : Nat) (w : World) : Calls Try.prog 14 #[fv f] w fun e w' => e = .returned (.pointer (some ⟨w.heap.size, 0, none⟩)) ∧ Heap w' w.heap.size base f σ (.slice none 0 0) [] 0 ∧ Below w.heap.size w w' :=
  (new_any f w).mono fun e w' ⟨h1, h2, h3⟩ => ⟨h1, Heap.start f σ w w' base h2, h3⟩

theorem push_l {w : World} {hb base f : Nat} {σ : Int → Int} (hc : Cmp f σ) {v : Value} {l : List It} {next : Int} (h : Heap w hb base f σ v l next) (hl : l.length ≤ 100000) (hn : next < 1000000) (hbs : base ≤ w.heap.size) (k n : Int) :
    Calls Try.prog 16 #[.pointer (some ⟨hb, 0, none⟩), .agg #[.int .i64 k, .int .i64 n]] w fun e w' => e = .returned (.tuple #[]) ∧ ∃ v', Heap w' hb base f σ v' (l ++ [⟨k, n, next⟩]) (next + 1) ∧ Own w v v' ∧ Fr (foot hb v) w w' := by
  obtain ⟨hO, hN, xs, hR, hF, hP⟩ := h
  refine (push_any hb base f σ hc v next xs k n w hO hR (by rw [hP.length_eq]; exact hl) hbs hF hN.n0 hN.n1).mono ?_
  rintro e w' ⟨he, v', ys, hO', hR', hP', hF', hown, hfr⟩
  exact ⟨he, v', ⟨hO', hN.push hn, ys, hR', hF', hP'.trans (hP.append_right _)⟩, hown, hfr⟩

theorem head_min {σ : Int → Int} {xs l : List It} {x : It} (hF : From (bef σ) xs 0) (hP : xs.Perm l) (hx : xs[0]? = some x) : IsMin σ l x := by
  refine ⟨hP.subset (List.mem_of_getElem? hx), fun y hy => ?_⟩
  obtain ⟨i, hi⟩ := List.getElem?_of_mem (hP.symm.subset hy)
  exact head_first (swo_bef σ) hF hx i y hi

/-- Pop at a heap that holds something. -/
theorem pop_l {w : World} {hb base f : Nat} {σ : Int → Int} (hc : Cmp f σ) {v : Value} {l : List It} {next : Int} (h : Heap w hb base f σ v l next) (hl : l.length ≤ 100000) (h0 : 0 < l.length) :
    ∃ x, IsMin σ l x ∧ Calls Try.prog 24 #[.pointer (some ⟨hb, 0, none⟩)] w fun e w' => e = .returned (.tuple #[.agg #[.int .i64 x.k, .int .i64 x.n], .bool true]) ∧ ∃ v', Heap w' hb base f σ v' (l.erase x) next ∧ Own w v v' ∧ Fr (foot hb v) w w' := by
  obtain ⟨hO, hN, xs, hR, hF, hP⟩ := h
  have hxl : 0 < xs.length := by rw [hP.length_eq]; exact h0
  have hx : xs[0]? = some xs[0] := List.getElem?_eq_getElem hxl
  have hm := head_min hF hP hx
  refine ⟨xs[0], hm, (pop_some hb base f σ hc v next xs xs[0] w hO hR hx (by rw [hP.length_eq]; exact hl) hF).mono ?_⟩
  rintro e w' ⟨he, v', ys, hO', hR', hP', hF', hown, hfr⟩
  refine ⟨he, v', ⟨hO', hN.sub List.erase_sublist, ys, hR', hF', ?_⟩, fun g hg => Or.inl (hown g hg), hfr⟩
  have h2 : (xs[0] :: l.erase xs[0]).Perm l := (List.perm_cons_erase hm.1).symm
  exact (List.perm_cons xs[0]).1 ((hP'.trans hP).trans h2.symm)

theorem pop_l0 {w : World} {hb base f : Nat} {σ : Int → Int} {v : Value} {next : Int} (h : Heap w hb base f σ v [] next) :
    Calls Try.prog 24 #[.pointer (some ⟨hb, 0, none⟩)] w fun e w' => e = .returned (.tuple #[.agg #[.int .i64 0, .int .i64 0], .bool false]) ∧ Below w.heap.size w w' := by
  obtain ⟨hO, hN, xs, hR, hF, hP⟩ := h
  have hx : xs = [] := hP.eq_nil
  subst hx
  exact pop_empty hb base (fv f) v next w hO hR

theorem peek_l {w : World} {hb base f : Nat} {σ : Int → Int} {v : Value} {l : List It} {next : Int} (h : Heap w hb base f σ v l next) (h0 : 0 < l.length) :
    ∃ x, IsMin σ l x ∧ Calls Try.prog 25 #[.pointer (some ⟨hb, 0, none⟩)] w fun e w' => e = .returned (.tuple #[.agg #[.int .i64 x.k, .int .i64 x.n], .bool true]) ∧ Below w.heap.size w w' := by
  obtain ⟨hO, hN, xs, hR, hF, hP⟩ := h
  have hxl : 0 < xs.length := by rw [hP.length_eq]; exact h0
  have hx : xs[0]? = some xs[0] := List.getElem?_eq_getElem hxl
  exact ⟨xs[0], head_min hF hP hx, peek_some hb base (fv f) v next xs xs[0] w hO hR hx⟩
theorem peek_l0 {w : World} {hb base f : Nat} {σ : Int → Int} {v : Value} {next : Int} (h : Heap w hb base f σ v [] next) :
    Calls Try.prog 25 #[.pointer (some ⟨hb, 0, none⟩)] w fun e w' => e = .returned (.tuple #[.agg #[.int .i64 0, .int .i64 0], .bool false]) ∧ Below w.heap.size w w' := by
  obtain ⟨hO, hN, xs, hR, hF, hP⟩ := h
  have hx : xs = [] := hP.eq_nil
  subst hx
  exact peek_empty hb base (fv f) v next w hO hR
theorem len_l {w : World} {hb base f : Nat} {σ : Int → Int} {v : Value} {l : List It} {next : Int} (h : Heap w hb base f σ v l next) :
    Calls Try.prog 30 #[.pointer (some ⟨hb, 0, none⟩)] w fun e w' => e = .returned (.int .i64 l.length) ∧ w = w' := by
  obtain ⟨hO, hN, xs, hR, hF, hP⟩ := h
  rw [← hP.length_eq]
  exact len_any hb base (fv f) v next xs w hO hR

/-- In order, strictly. -/
def Srt (σ : Int → Int) (o : List It) : Prop := o.Pairwise (fun a b => bef σ a b = true)

theorem srt_cons {σ : Int → Int} {l o : List It} {next : Int} {x : It} (hN : Num l next) (hx : IsMin σ l x) (ho : Srt σ o) (hp : o.Perm (l.erase x)) : Srt σ (x :: o) ∧ (x :: o).Perm l := by
  refine ⟨List.Pairwise.cons ?_ ho, (hp.cons x).trans (List.perm_cons_erase hx.1).symm⟩
  intro y hy
  have hy' : y ∈ l.erase x := hp.subset hy
  have hyl : y ∈ l := List.mem_of_mem_erase hy'
  have h1 := hx.2 y hyl
  have hne : x ≠ y := by
    intro e
    subst e
    exact (List.Nodup.not_mem_erase hN.nodup) hy'
  rw [bef_not] at h1
  rw [bef_iff]
  have : x.s ≠ y.s := fun e => hne (hN.inj hx.1 hyl e)
  omega

/-- There is one such list. -/
theorem srt_unique {σ : Int → Int} : ∀ {o o' : List It}, Srt σ o → Srt σ o' → o.Perm o' → o = o' := by
  intro o
  induction o with
  | nil => intro o' _ _ hp; exact (hp.symm.eq_nil).symm
  | cons a r ih =>
    intro o' h h' hp
    cases o' with
    | nil => exact absurd hp.length_eq (by simp)
    | cons b r' =>
      have hab : a = b := by
        rcases List.mem_cons.1 (hp.subset (List.mem_cons_self)) with e | e
        · exact e
        · rcases List.mem_cons.1 (hp.symm.subset (List.mem_cons_self)) with e2 | e2
          · exact e2.symm
          · have h1 := (List.pairwise_cons.1 h').1 a e
            have h2 := (List.pairwise_cons.1 h).1 b e2
            have := (swo_bef σ).asymm _ _ h1
            rw [this] at h2
            cases h2
      subst hab
      rw [ih (List.pairwise_cons.1 h).2 (List.pairwise_cons.1 h').2 ((List.perm_cons a).1 hp)]

end Go.Proofs.Ytlhgoklojhgfeaa
