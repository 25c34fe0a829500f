/- The walk of HeapSorts: it returns true whatever the keys.
   Conditions: none. -/
import Derived.Test.YtlhgoklojhgfeaaM
namespace Go.Proofs.Ytlhgoklojhgfeaa
open Go.RowKit Go.HeapW Go.HeapP
set_option linter.unusedSimpArgs false
set_option linter.unusedVariables false

/-- Keys with their places. -/
def mk (ks : List Int) : List Im := ks.zipIdx.map fun q => (q.1, (q.2 : Int))
theorem mk_snoc (ks : List Int) (k : Int) : mk (ks ++ [k]) = mk ks ++ [(k, (ks.length : Int))] := by simp [mk, List.zipIdx_append]
theorem mk_length (ks : List Int) : (mk ks).length = ks.length := by simp [mk]
theorem mk_get {ks : List Int} {q : Nat} {k : Int} (h : ks[q]? = some k) : (mk ks)[q]? = some (k, (q : Int)) := by
  simp [mk, List.getElem?_zipIdx, h]

theorem mem_numb_mk {ks : List Int} {x : It} (h : x ∈ numb (mk ks)) : ∃ q : Nat, q < ks.length ∧ x.n = q ∧ x.s = q ∧ (mk ks)[q]? = some (x.k, (q : Int)) := by
  simp only [numb, List.mem_map] at h
  obtain ⟨⟨p, i⟩, hp, rfl⟩ := h
  have hp' := List.mem_zipIdx_iff_getElem?.1 hp
  simp only at hp'
  have hi : i < ks.length := by have := lt_of_get hp'; rwa [mk_length] at this
  refine ⟨i, hi, ?_, rfl, ?_⟩
  · have := mk_get (List.getElem?_eq_getElem hi)
    rw [hp'] at this
    have h2 := Option.some.inj this
    rw [h2]
  · rw [hp']
    have := mk_get (List.getElem?_eq_getElem hi)
    rw [hp'] at this
    have h2 := Option.some.inj this
    rw [h2]

def SortsL (w : World) (ks : List Int) (s c : Value) (wr : World) : Prop :=
  ∃ i : Nat, c = .int .i64 i ∧ i ≤ ks.length ∧ IRow wr w.heap.size s (mk (ks.take i)) ∧ Below w.heap.size w wr

/-- A slice of ints reads as ks. -/
def Ints (w : World) (a : Option Addr) (ks : List Int) : Prop := ks = [] ∨ ∃ b off, a = some ⟨b, off, none⟩ ∧ b < w.heap.size ∧ ∀ i k, ks[i]? = some k → w.cell? ⟨b, off + i, none⟩ = some (.int .i64 k)

theorem irow_append {w1 : World} {base g cap : Nat} {m : List Im} {p : Im} (h : w1.ownsRow base 26 2 (.slice (some ⟨g, 0, none⟩) (m.length + 1) cap) (m.length + 1) (flat pk m ++ pk p)) : IRow w1 base (.slice (some ⟨g, 0, none⟩) (m.length + 1) cap) (m ++ [p]) := by
  simp only [IRow, flat_snoc, List.length_append, List.length_singleton]
  exact h

def SortsO (w : World) (n : Nat) (c : Value) (wr : World) : Prop := ∃ i : Nat, c = .int .i64 i ∧ i ≤ n ∧ Below w.heap.size w wr

theorem srt_get {σ : Int → Int} {o : List It} (h : Srt σ o) {i j : Nat} {x y : It} (hx : o[i]? = some x) (hy : o[j]? = some y) (hij : i < j) : bef σ x y = true := by
  obtain ⟨hi, rfl⟩ := List.getElem?_eq_some_iff.1 hx
  obtain ⟨hj, rfl⟩ := List.getElem?_eq_some_iff.1 hy
  exact List.pairwise_iff_getElem.1 h i j hi hj hij

/-- An element of a slice of items, read later. -/
theorem its_cells {w w' : World} {a : Option Addr} {n cap : Nat} {m : List Im} {i : Nat} {p : Im} (h : Its w (.slice a n cap) m) (hb : Below w.heap.size w w') (hp : m[i]? = some p) :
    ∃ b off, a = some ⟨b, off, none⟩ ∧ w'.cell? ⟨b, off + i * 2, none⟩ = some (.int .i64 p.1) ∧ w'.cell? ⟨b, off + i * 2 + 1, none⟩ = some (.int .i64 p.2) := by
  obtain ⟨a', cap', hv, h⟩ := h.below hb
  simp only [Value.slice.injEq] at hv
  obtain ⟨rfl, _, rfl⟩ := hv
  rcases h with rfl | ⟨b, off, ha, _, hc⟩
  · simp at hp
  · exact ⟨b, off, ha, hc i p hp⟩

set_option maxHeartbeats 4000000 in
set_option maxRecDepth 100000 in
theorem sorts_walk (a : Option Addr) (cap : Nat) (ks : List Int) (w : World) (hI : Ints w a ks) (hbig : ks.length ≤ 9223372036854775807) :
    Calls Try.prog 3 #[.slice a ks.length cap] w fun e w' => e = .returned (.bool true) ∧ Below w.heap.size w w' := by
  obtain ⟨i0, hi0, hz0, hz1, hz2⟩ := info_parts info26
  have HW := Lib.hid (awake_any w)
  have hmx : (ks.length : Int) ≤ 9223372036854775807 := by omega
  have HI := Lib.hid hI
  clear hI hbig
  by_cases hlen : ks.length ≤ 300
  · have hl : (ks.length : Int) ≤ 300 := by omega
    have hld : decide ((300 : Int) < (ks.length : Int)) = false := decide_eq_false (by omega)
    clear hmx
    go_enter Try.func3, Try.ntmps3
    go_wp2_with (go_at_call 11; ((with_reducible refine (HW.out).mono ?_); rintro e w1 ⟨rfl, hb⟩; have HB := Lib.hid hb; clear hb))
    go_loopw [3, 15] (fun s c wr => SortsL w ks s c wr) (fun _ c _ => ks.length - (intOf c).toNat)
    case atStart => exact ⟨0, rfl, Nat.zero_le _, irow_nil _ _, HB.out⟩
    case round =>
      obtain ⟨i, rfl, hi, hrow, hB⟩ := hrel
      have HROW := Lib.hid hrow
      have HB' := Lib.hid hB
      clear hrow hB
      by_cases hlt : i < ks.length
      · obtain ⟨k, hk⟩ : ∃ k, ks[i]? = some k := ⟨_, List.getElem?_eq_getElem hlt⟩
        rcases HI.out with h0 | ⟨b, off, rfl, hbl, hcl⟩
        · rw [h0] at hlt; simp at hlt
        have c0 := hcl i k hk
        rw [← HB'.out.cell (p := ⟨b, off + i, none⟩) hbl] at c0
        have hil : (i : Int) < (ks.length : Int) := by omega
        have hin0 : (0 : Int) ≤ (i : Int) := by omega
        have HK := Lib.hid hk
        have hml : (mk (ks.take i)).length = i := by rw [mk_length, List.length_take]; omega
        have HML := Lib.hid hml
        clear hcl hk hbl hi hml
        go_wp2_with (at_builtin; go_must (refine wpList_append_lies _ rfl (.tmp 20) (.tmp 24) 24 rfl w.heap.size 26 i0 _ 2 16 Try.underlying24 hi0 hz0 hz1 hz2 rfl (by omega) _ (mk (ks.take i)).length (flat pk (mk (ks.take i))) rfl (HROW.out.alloc _) ⟨wr.heap.size, 0, none⟩ 1 1 (pk (k, (i : Int))) rfl rfl ?c1 ?c2 (by omega) ?c3 ?c4 ?c5 (wr.heap.size + 1) ?c6 ?_))
        case c1 => exact World.news_of_block (cs := #[.int .i64 k, .int .i64 i]) (t := 26) (fr := (0, 0)) (alloc_new _ _)
        case c2 => simp [Value.oneCell', pk]
        case c3 => unfold maxLen; have := HML.out; omega
        case c4 => have := HML.out; omega
        case c5 => have := HB'.out.size; simp; omega
        case c6 => simp
        intro g cap' w3 hro hgr hat hlt2
        have HRO := Lib.hid hro
        have HGR := Lib.hid hgr
        clear hro hgr hat hlt2
        go_wp2_with fail
        go_roundw
        case rel =>
          refine ⟨i + 1, by go_num, by omega, ?_, ?_⟩
          · have e : mk (ks.take (i + 1)) = mk (ks.take i) ++ [(k, (i : Int))] := by
              rw [take_snoc' HK.out, mk_snoc, List.length_take, Nat.min_eq_left (by omega)]
            rw [e]
            exact irow_append HRO.out
          · exact (HB'.out.alloc HB'.out.size _).grown HGR.out (by have := HB'.out.size; simp; omega) (fun j hj => (HROW.out.lt j hj).1)
        case measure => simp [intOf]; omega
      · have he : i = ks.length := by omega
        subst he
        clear hlt hi
        have hrl := HROW.out
        rw [List.take_length] at hrl
        obtain ⟨al, cl, hs⟩ := irow_shape hrl
        rw [mk_length] at hs
        subst hs
        have HR := Lib.hid hrl
        have HIL := Lib.hid hrl.its
        clear hrl HROW
        have hpu := Lib.hid (pushed_any _ (mk ks) wr HIL.out (by rw [mk_length]; omega))
        go_wp2_with (first | (go_at_call 13; ((with_reducible refine (hpu.out).mono ?_); rintro e w2 ⟨rfl, hm⟩; obtain ⟨vh, hh, _, hg, hB2⟩ := hm; have HH := Lib.hid hh; have HG := Lib.hid hg; have HB2 := Lib.hid hB2; clear hh hg hB2)) | (go_at_call 12; fail))
        refine (popped_any cmp_byKey HH.out (by rw [numb_length, mk_length]; omega) HB2.out.size).mono ?_
        rintro e w3 ⟨so, o, rfl, hsrt, hperm, hro, v3, _, _, hfr⟩
        obtain ⟨ao, co, hso⟩ := irow_shape hro
        have hol : (o.map It.im).length = ks.length := by rw [List.length_map, hperm.length_eq, numb_length, mk_length]
        rw [hol] at hso
        subst hso
        have hB3 : Below wr.heap.size wr w3 := HB2.out.trans (hfr.below HB2.out.size (fun k hk hs => by
          rcases hs with rfl | hs
          · omega
          · have := HG.out k hs; omega))
        have HIL3 := Lib.hid (HIL.out.below hB3)
        have HIO3 := Lib.hid hro.its
        have HB3 := Lib.hid (HB'.out.trans (hB3.mono HB'.out.size))
        have HS := Lib.hid hsrt
        have HP := Lib.hid hperm
        have HOL := Lib.hid hol
        clear hsrt hperm hro hfr hB3 HH HG HB2 hol
        go_wp2_with fail
        go_loopw [37] (fun c wr => SortsO w3 ks.length c wr) (fun c _ => ks.length - (intOf c).toNat)
        case atStart => exact ⟨0, rfl, Nat.zero_le _, Below.refl _ _⟩
        case round =>
          obtain ⟨i, rfl, hi, hb4⟩ := hrel
          have HB4 := Lib.hid hb4
          clear hb4
          by_cases hlt : i < ks.length
          · obtain ⟨x, hx⟩ : ∃ x, o[i]? = some x := ⟨_, List.getElem?_eq_getElem (by have := HOL.out; rw [List.length_map] at this; omega)⟩
            obtain ⟨q, hq, hxn, hxs, hlq⟩ := mem_numb_mk (HP.out.subset (List.mem_of_getElem? hx))
            obtain ⟨bo, oo, hao, c0, c1⟩ := its_cells HIO3.out HB4.out (show (o.map It.im)[i]? = some x.im by simp [hx])
            obtain ⟨bl, ol, hal, d0, d1⟩ := its_cells HIL3.out HB4.out hlq
            subst hao
            subst hal
            simp only [It.im] at c0 c1
            rw [hxn] at c1
            have hil : (i : Int) < (ks.length : Int) := by omega
            have hin0 : (0 : Int) ≤ (i : Int) := by omega
            have hq0 : decide ((q : Int) < 0) = false := decide_eq_false (by omega)
            have hq1 : decide (ks.length ≤ q) = false := decide_eq_false (by omega)
            have hq2 : (q : Int) < (ks.length : Int) := by omega
            have hq3 : (0 : Int) ≤ (q : Int) := by omega
            have HX := Lib.hid hx
            have HXN := Lib.hid hxn
            have HXS := Lib.hid hxs
            clear hx hxn hxs hlq hi hq
            by_cases hi0' : 0 < i
            · obtain ⟨j, hj⟩ : ∃ j, i - 1 = j := ⟨_, rfl⟩
              have hj1 : (i : Int) - 1 = (j : Int) := by omega
              obtain ⟨y, hy⟩ : ∃ y, o[j]? = some y := ⟨_, List.getElem?_eq_getElem (by have := lt_of_get HX.out; omega)⟩
              obtain ⟨r, hr, hyn, hys, _⟩ := mem_numb_mk (HP.out.subset (List.mem_of_getElem? hy))
              obtain ⟨bo', oo', hao', f0, f1⟩ := its_cells HIO3.out HB4.out (show (o.map It.im)[j]? = some y.im by simp [hy])
              obtain ⟨rfl, rfl⟩ : bo' = bo ∧ oo' = oo := by simpa using hao'.symm
              simp only [It.im] at f0 f1
              rw [hyn] at f1
              have hjl : (j : Int) < (ks.length : Int) := by omega
              have hj0 : (0 : Int) ≤ (j : Int) := by omega
              have hi1 : (0 : Int) < (i : Int) := by omega
              have hbf := srt_get HS.out hy HX.out (by omega)
              rw [bef_iff] at hbf
              rw [hys, HXS.out] at hbf
              have g1 : decide (x.k < y.k) = false := decide_eq_false (by omega)
              have HJ := Lib.hid hj
              by_cases hk : x.k = y.k
              · have g2 : (x.k == y.k) = true := beq_iff_eq.2 hk
                have g3 : decide (q ≤ r) = false := decide_eq_false (by omega)
                clear hy hyn hys hj hbf hk hao' hr
                go_wp2_with fail
                go_quiet (fail)
                go_wp2_with fail
                go_quiet (fail)
                go_wp2_with fail
                go_roundw
                case rel => exact ⟨i + 1, by go_num, by omega, below_drewN HB4.out _⟩
                case measure => simp [intOf]; omega
              · have g2 : (x.k == y.k) = false := beq_eq_false_iff_ne.2 hk
                clear hy hyn hys hj hbf hk hao' hr
                go_wp2_with fail
                go_quiet (fail)
                go_wp2_with fail
                go_quiet (fail)
                go_wp2_with fail
                go_roundw
                case rel => exact ⟨i + 1, by go_num, by omega, below_drewN HB4.out _⟩
                case measure => simp [intOf]; omega
            · have h0 : decide (0 < i) = false := decide_eq_false (by omega)
              clear hi0'
              go_wp2_with fail
              go_quiet (fail)
              go_wp2_with fail
              go_quiet (fail)
              go_wp2_with fail
              go_roundw
              case rel => exact ⟨i + 1, by go_num, by omega, below_drewN HB4.out _⟩
              case measure => simp [intOf]; omega
          · have he : i = ks.length := by omega
            subst he
            clear hlt hi
            go_wp2_with fail
            go_ret
            exact ⟨rfl, HB3.out.trans (HB4.out.mono HB3.out.size)⟩
  · have hl : (300 : Int) < (ks.length : Int) := by omega
    go_enter Try.func3, Try.ntmps3
    go_wp2_with (go_at_call 11; ((with_reducible refine (HW.out).mono ?_); rintro e w1 ⟨rfl, hb⟩; have HB := Lib.hid hb; clear hb))
    go_ret
    exact ⟨rfl, HB.out⟩

end Go.Proofs.Ytlhgoklojhgfeaa
