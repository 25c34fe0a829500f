/- The contract of popped: the items in the heap's order; the heap is empty behind it.
   Conditions: fewer than 1,000 items. -/
import Derived.Test.YtlhgoklojhgfeaaJ
namespace Go.Proofs.Ytlhgoklojhgfeaa
open Go.RowKit Go.HeapW Go.HeapP
set_option linter.unusedSimpArgs false
set_option linter.unusedVariables false

theorem info26 : (Try.prog.info? 26).map (fun i => (i.zero, i.size, i.bytes)) = some (some (.agg #[.int .i64 0, .int .i64 0]), 2, 16) := by kernel_rfl

/-- What has been popped, o, and what is left, r. -/
structure Popd (σ : Int → Int) (l o r : List It) : Prop where
  srt : Srt σ o
  bef : ∀ a ∈ o, ∀ b ∈ r, bef σ a b = true
  perm : (o ++ r).Perm l

theorem Popd.start {σ : Int → Int} {l : List It} : Popd σ l [] l := ⟨List.Pairwise.nil, by simp, List.Perm.refl _⟩
theorem Popd.step {σ : Int → Int} {l o r : List It} {next : Int} {x : It} (h : Popd σ l o r) (hN : Num r next) (hx : IsMin σ r x) : Popd σ l (o ++ [x]) (r.erase x) := by
  refine ⟨?_, ?_, ?_⟩
  · refine List.pairwise_append.2 ⟨h.srt, List.pairwise_singleton _ _, ?_⟩
    intro a ha b hb
    rw [List.mem_singleton] at hb
    subst hb
    exact h.bef a ha b hx.1
  · intro a ha b hb
    rw [List.mem_append, List.mem_singleton] at ha
    have hbr := List.mem_of_mem_erase hb
    rcases ha with ha | rfl
    · exact h.bef a ha b hbr
    · have h1 := hx.2 b hbr
      rw [bef_not] at h1
      rw [bef_iff]
      have : a.s ≠ b.s := by
        intro e
        have := hN.inj hx.1 hbr e
        subst this
        exact (List.Nodup.not_mem_erase hN.nodup) hb
      omega
  · rw [List.append_assoc]
    exact ((List.perm_cons_erase hx.1).symm.append_left o).trans h.perm

def PoppedRel (w : World) (hb base f : Nat) (σ : Int → Int) (v : Value) (l : List It) (next : Int) (s c : Value) (wr : World) : Prop :=
  ∃ (i : Nat) (o r : List It) (v' : Value), c = .int .i64 i ∧ o.length = i ∧ Popd σ l o r ∧ Heap wr hb base f σ v' r next ∧ Own w v v' ∧ Fr (foot hb v) w wr ∧ IRow wr w.heap.size s (o.map It.im)

theorem owns_apart {w : World} {b1 b2 e1 e2 : Nat} {s1 s2 n1 n2 : Nat} {v1 v2 : Value} {x1 x2 : List Value} (h1 : w.ownsRow b1 e1 s1 v1 n1 x1) (h2 : w.ownsRow b2 e2 s2 v2 n2 x2) (he : e1 ≠ e2) : ∀ g, v1.ownBlock = some g → v2.ownBlock ≠ some g := by
  intro g hg
  rcases h1.2 with ⟨rfl, _⟩ | ⟨g', cap, cur, rfl, _, hh, _⟩
  · simp [Value.ownBlock] at hg
  · simp only [Value.ownBlock, Option.some.injEq] at hg
    subst hg
    exact owns_ne h2 hh he
theorem Heap.apart {w : World} {hb base base' f : Nat} {σ : Int → Int} {v s : Value} {l : List It} {next : Int} {m : List Im} (h : Heap w hb base f σ v l next) (hr : IRow w base' s m) : ∀ g, s.ownBlock = some g → ¬ foot hb v g := by
  obtain ⟨hO, hN, xs, hR, hF, hP⟩ := h
  intro g hg hf
  rcases hf with rfl | hf
  · exact owns_ne hr hO (by decide) hg
  · exact owns_apart hr hR (by decide) g hg hf

theorem blk2 (w : World) (o1 o2 : Obj) : ((w.alloc o1).alloc o2).heap[w.heap.size + 1]? = some o2 := by
  have h := alloc_new (w.alloc o1) o2
  rwa [World.size_alloc] at h
theorem size2 (w : World) (o1 o2 : Obj) : ((w.alloc o1).alloc o2).heap.size = w.heap.size + 2 := by simp
theorem irow_nil (w : World) (base : Nat) : IRow w base (.slice none 0 0) [] := World.ownsRow_nil _ _ _ _
theorem irow_shape {w : World} {base : Nat} {v : Value} {m : List Im} (h : IRow w base v m) : ∃ a cap, v = .slice a m.length cap := by
  rcases h.2 with ⟨rfl, h0⟩ | ⟨g, cap, cur, rfl, _⟩
  · exact ⟨none, 0, by rw [h0]⟩
  · exact ⟨_, cap, rfl⟩

set_option maxHeartbeats 2000000 in
theorem popped_any {w : World} {hb base f : Nat} {σ : Int → Int} (hc : Cmp f σ) {v : Value} {l : List It} {next : Int} (h : Heap w hb base f σ v l next) (hl : l.length < 1000) (hbs : base ≤ w.heap.size) :
    Calls Try.prog 12 #[.pointer (some ⟨hb, 0, none⟩)] w fun e w' => ∃ s o, e = .returned s ∧ Srt σ o ∧ o.Perm l ∧ IRow w' w.heap.size s (o.map It.im) ∧ ∃ v', Heap w' hb base f σ v' [] next ∧ Own w v v' ∧ Fr (foot hb v) w w' := by
  obtain ⟨i0, hi0, hz0, hz1, hz2⟩ := info_parts info26
  have H0 : PoppedRel w hb base f σ v l next (.slice none 0 0) (.int .i64 0) w := ⟨0, [], l, v, rfl, rfl, Popd.start, h, Own.refl _ _, Fr.refl _ _, irow_nil _ _⟩
  have HC := Lib.hid hc
  have HL := Lib.hid hl
  have HBS := Lib.hid hbs
  have HL0 := Lib.hid h.lt
  clear hc h hl hbs
  go_enter Try.func12, Try.ntmps12
  go_wp2_with fail
  go_loopw [3, 6] (fun s c wr => PoppedRel w hb base f σ v l next s c wr) (fun _ c _ => 1000 - (intOf c).toNat)
  case atStart => exact H0
  case round =>
    clear H0
    obtain ⟨i, o, r, v', rfl, ho, hp, hh, hown, hfr, hrow⟩ := hrel
    have hlen : o.length + r.length = l.length := by rw [← List.length_append]; exact hp.perm.length_eq
    have hi : (i : Int) < 1000 := by have := HL.out; omega
    have HO := Lib.hid ho
    have HP := Lib.hid hp
    have HH := Lib.hid hh
    have HOWN := Lib.hid hown
    have HFR := Lib.hid hfr
    have HROW := Lib.hid hrow
    have HLEN := Lib.hid hlen
    clear ho hp hh hown hfr hrow hlen
    by_cases hr : r = []
    · subst hr
      have hpo := Lib.hid (pop_l0 HH.out)
      go_wp2_with (go_at_call 24; ((with_reducible refine (hpo.out).mono ?_); rintro e w2 ⟨rfl, hx⟩; have HX := Lib.hid hx; clear hx))
      go_ret
      have hpp := HP.out.perm
      rw [List.append_nil] at hpp
      have hB := (HX.out.alloc HX.out.size (.cells #[.int .i64 0, .int .i64 0] 26))
      have hF : Fr (fun _ => False) wr _ := Fr.of_below hB
      exact ⟨_, o, rfl, HP.out.srt, hpp, hF.owns HROW.out (fun _ _ x => x), v', HH.out.below hB, HOWN.out, HFR.out.trans (Fr.of_below hB)⟩
    · obtain ⟨x, hx, hpo⟩ := pop_l HC.out HH.out (by have := HL.out; have := HLEN.out; omega) (List.length_pos_iff.2 hr)
      have HX := Lib.hid hx
      have HPO := Lib.hid hpo
      clear hx hpo hr
      go_wp2_with (first | (go_at_call 24; ((with_reducible refine (HPO.out).mono ?_); rintro e w2 ⟨rfl, hx⟩; obtain ⟨v2, hh2, hown2, hfr2⟩ := hx; have HRW2 := Lib.hid (hfr2.owns HROW.out (HH.out.apart HROW.out)); have HH2 := Lib.hid hh2; have HOWN2 := Lib.hid hown2; have HFR2 := Lib.hid hfr2; clear hh2 hown2 hfr2)) | (at_builtin; refine wpList_append_lies _ rfl (.tmp 15) (.tmp 17) 24 rfl w.heap.size 26 i0 _ 2 16 Try.underlying24 hi0 hz0 hz1 hz2 rfl (by omega) _ (o.map It.im).length (flat pk (o.map It.im)) rfl ((HRW2.out.alloc _).alloc _) ⟨w2.heap.size + 1, 0, none⟩ 1 1 (pk (x.k, x.n)) rfl rfl ?c1 ?c2 (by omega) ?c3 ?c4 ?c5 (w2.heap.size + 2) ?c6 ?_))
      case c1 => exact World.news_of_block (cs := #[.int .i64 x.k, .int .i64 x.n]) (t := 26) (fr := (0, 0)) (blk2 _ _ _)
      case c2 => simp [Value.oneCell', pk]
      case c3 => unfold maxLen; have := HL.out; have := HLEN.out; simp; omega
      case c4 => have := HL.out; have := HLEN.out; simp; omega
      case c5 => have := HFR.out.size; have := HFR2.out.size; rw [size2]; omega
      case c6 => exact size2 _ _ _
      intro g cap w3 hro hgr hat hlt
      have HRO := Lib.hid hro
      have HGR := Lib.hid hgr
      have HAT := Lib.hid hat
      clear hro hgr hat hlt
      go_wp2_with fail
      go_roundw
      case rel =>
        have hfr3 : Fr (fun j => Value.ownBlock _ = some j) w2 w3 := (((Fr.refl _ w2).alloc _).alloc _).trans (Fr.of_grown HGR.out)
        refine ⟨i + 1, o ++ [x], r.erase x, v2, by go_num, by rw [List.length_append, HO.out]; rfl, HP.out.step HH.out.2.1 HX.out, ?_, HOWN.out.trans HFR.out.size HOWN2.out, ?_, ?_⟩
        · exact HH2.out.keep hfr3 (fun h => HH2.out.apart HRW2.out _ h (Or.inl rfl)) (fun j hj h => HH2.out.apart HRW2.out _ h (Or.inr hj))
        · refine (foot_trans HFR.out HOWN.out HFR2.out).step hfr3 (fun _ _ h => h) (fun j hj h => ?_)
          have := (HRW2.out.lt j h).1
          omega
        · have e : (o ++ [x]).map It.im = o.map It.im ++ [(x.k, x.n)] := by simp [It.im]
          rw [e]
          have hro := HRO.out
          simp only [IRow, flat_snoc, List.length_append, List.length_singleton, List.length_map]
          exact hro
      case measure => simp [intOf]; omega

end Go.Proofs.Ytlhgoklojhgfeaa
