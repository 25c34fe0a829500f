/- The contract of down: the row holds the same elements, in the heap's order from that place on.
   Conditions: before the call the row is in order behind that place. -/
import Derived.Test.YtlhgoklojhgfeaaD
namespace Go.Proofs.Ytlhgoklojhgfeaa
open Go.RowKit Go.HeapW Go.HeapP
set_option linter.unusedSimpArgs false
set_option linter.unusedVariables false

def DownRel (w : World) (hb base f : Nat) (v : Value) (next : Int) (σ : Int → Int) (xs : List It) (lo : Nat) (s : Value) (wr : World) : Prop :=
  ∃ (i : Nat) (ys : List It), s = .int .i64 i ∧ lo ≤ i ∧ i ≤ xs.length + lo ∧ Mv w wr hb base f v next xs ys ∧ DownInv (bef σ) ys lo i

theorem row_shape {w : World} {base : Nat} {v : Value} {xs : List It} (h : HRow w base v xs) : ∃ a cap, v = .slice a xs.length cap := by
  rcases h.2 with ⟨rfl, h0⟩ | ⟨g, cap, cur, rfl, _⟩
  · exact ⟨none, 0, by rw [h0]⟩
  · exact ⟨_, cap, rfl⟩

/-- No child: in order. -/
theorem no_child {xs : List It} {σ : Int → Int} {i : Nat} (h : xs.length ≤ 2 * i + 1) : ∀ j, 0 < j → (j - 1) / 2 = i → Go.HeapP.Edge (bef σ) xs j := by
  intro j hj hji x p hx _
  have := lt_of_get hx
  omega

/-- The child that comes first does not come before the parent: in order. -/
theorem child_ok {xs : List It} {σ : Int → Int} {i : Nat} {x y : It} (hx : xs[i]? = some x) (hlt : bef σ y x = false) (hsib : ∀ d z, (d - 1) / 2 = i → 0 < d → xs[d]? = some z → bef σ z y = false) :
    ∀ j, 0 < j → (j - 1) / 2 = i → Go.HeapP.Edge (bef σ) xs j := by
  intro j hj hji z p hz hp
  rw [hji, hx] at hp
  cases hp
  exact (swo_bef σ).trans _ _ _ hlt (hsib j z hji hj hz)

theorem sib_two {xs : List It} {σ : Int → Int} {i : Nat} {y z : It} (hy : xs[2 * i + 1]? = some y) (hz : xs[2 * i + 2]? = some z) :
    (bef σ z y = true → ∀ d u, (d - 1) / 2 = i → 0 < d → xs[d]? = some u → bef σ u z = false) ∧ (bef σ z y = false → ∀ d u, (d - 1) / 2 = i → 0 < d → xs[d]? = some u → bef σ u y = false) := by
  constructor
  · intro h d u hd h0 hu
    rcases (show d = 2 * i + 1 ∨ d = 2 * i + 2 from by omega) with rfl | rfl
    · rw [hy] at hu; cases hu; exact (swo_bef σ).asymm _ _ h
    · rw [hz] at hu; cases hu; exact (swo_bef σ).irrefl _
  · intro h d u hd h0 hu
    rcases (show d = 2 * i + 1 ∨ d = 2 * i + 2 from by omega) with rfl | rfl
    · rw [hy] at hu; cases hu; exact (swo_bef σ).irrefl _
    · rw [hz] at hu; cases hu; exact h
theorem sib_one {xs : List It} {σ : Int → Int} {i : Nat} {y : It} (hy : xs[2 * i + 1]? = some y) (hl : xs.length ≤ 2 * i + 2) : ∀ d u, (d - 1) / 2 = i → 0 < d → xs[d]? = some u → bef σ u y = false := by
  intro d u hd h0 hu
  have := lt_of_get hu
  obtain rfl : d = 2 * i + 1 := by omega
  rw [hy] at hu; cases hu; exact (swo_bef σ).irrefl _

set_option maxHeartbeats 2000000 in
theorem down_any (hb base : Nat) (f : Nat) (σ : Int → Int) (hc : Cmp f σ) (v : Value) (next : Int) (xs : List It) (lo : Nat) (w : World)
    (hO : HObj w hb (fv f) v next) (hR : HRow w base v xs) (hlen : xs.length ≤ 1000000) (hlo : lo ≤ 1000000) (hD : From (bef σ) xs (lo + 1)) :
    Calls Try.prog 39 #[.pointer (some ⟨hb, 0, none⟩), .int .i64 lo] w fun e w' => e = .returned (.tuple #[]) ∧ Moved w w' hb base f v next σ xs lo := by
  have HR0 : DownRel w hb base f v next σ xs lo (.int .i64 lo) w := ⟨lo, xs, rfl, Nat.le_refl _, by omega, Mv.start hO hR, down_start hD⟩
  obtain ⟨a, cap, hv⟩ := row_shape hR
  have HC := Lib.hid hc
  have HV := Lib.hid hv
  have HL := Lib.hid hlen
  have HLO := Lib.hid hlo
  clear hc hO hR hD hv hlen hlo
  go_enter Try.func39, Try.ntmps39
  go_wp2_with fail
  go_loopw [1] (fun s wr => DownRel w hb base f v next σ xs lo s wr) (fun s _ => xs.length + lo - (intOf s).toNat)
  case atStart => exact HR0
  case round =>
    clear HR0
    obtain ⟨i, ys, rfl, hlo, hil, hM, hU⟩ := hrel
    have hys := hM.len
    obtain ⟨n, hn⟩ : ∃ n, ys.length = n := ⟨_, rfl⟩
    have h1 : wr.cell? ⟨hb, 1, none⟩ = some (.slice a n cap) := by rw [← hn, hys, ← HV.out]; exact (cell_of_blk hM.obj 1).trans rfl
    have hxn : xs.length = n := by rw [← hn, hys]
    have hbn : (n : Int) ≤ 1000000 := by have := HL.out; omega
    have hbi : (i : Int) ≤ 2000000 := by have := HL.out; have := HLO.out; omega
    have HM := Lib.hid hM
    have HU := Lib.hid hU
    have HN := Lib.hid hn
    have HX := Lib.hid hxn
    have HI := Lib.hid hil
    have HLI := Lib.hid hlo
    clear hM hU hn hys hxn hil hlo
    obtain ⟨c, hc⟩ : ∃ c, 2 * i + 1 = c := ⟨_, rfl⟩
    have hc1 : 2 * (i : Int) + 1 = (c : Int) := by omega
    have hbc : (c : Int) ≤ 5000000 := by omega
    have HCC := Lib.hid hc
    clear hc
    by_cases hcn : c < n
    · have hcn' : (c : Int) < (n : Int) := by omega
      clear hcn
      obtain ⟨x, hx⟩ : ∃ x, ys[i]? = some x := ⟨_, List.getElem?_eq_getElem (by have := HN.out; omega)⟩
      obtain ⟨y, hy⟩ : ∃ y, ys[c]? = some y := ⟨_, List.getElem?_eq_getElem (by have := HN.out; omega)⟩
      have HXX := Lib.hid hx
      have HYY := Lib.hid hy
      clear hx hy
      obtain ⟨d, hd⟩ : ∃ d, c + 1 = d := ⟨_, rfl⟩
      have hd1 : (c : Int) + 1 = (d : Int) := by omega
      have HDD := Lib.hid hd
      clear hd
      by_cases hdn : d < n
      · have hdn' : (d : Int) < (n : Int) := by omega
        clear hdn
        obtain ⟨z, hz⟩ : ∃ z, ys[d]? = some z := ⟨_, List.getElem?_eq_getElem (by have := HN.out; omega)⟩
        have HZZ := Lib.hid hz
        clear hz
        cases hlt : bef σ z y with
        | true =>
          have hcon := before_any hb base f σ HC.out v next ys d c z y wr HM.out.obj HM.out.row HZZ.out HYY.out
          rw [hlt] at hcon
          have HCON := Lib.hid hcon
          have HSIB := Lib.hid ((sib_two (σ := σ) (by have := HYY.out; rwa [← HCC.out] at this) (by have := HZZ.out; rwa [← HDD.out, ← HCC.out] at this)).1 hlt)
          clear hcon hlt
          go_wp2_with (go_at_call 40; ((with_reducible refine (HCON.out).mono ?_); rintro e w' ⟨rfl, hbe⟩; have HBE := Lib.hid hbe; clear hbe))
          have HKC := Lib.hid (show (d - 1) / 2 = i ∧ 0 < d ∧ i ≠ d ∧ i < d from by have := HCC.out; have := HDD.out; omega)
          have HMM := Lib.hid (HM.out.below HBE.out)
          cases hlt2 : bef σ z x with
          | true =>
            have hcon2 := before_any hb base f σ HC.out v next ys d i z x w' HMM.out.obj HMM.out.row HZZ.out HXX.out
            rw [hlt2] at hcon2
            have HCON2 := Lib.hid hcon2
            have HT2 := Lib.hid hlt2
            clear hcon2 hlt2
            refine (HCON2.out).mono ?_
            rintro e w2 ⟨rfl, hbe2⟩
            have HM2 := Lib.hid (HMM.out.below hbe2)
            clear hbe2
            obtain ⟨g, cap', hv, _⟩ := row_at HM2.out.row (by have := HN.out; omega)
            have HV2 := Lib.hid hv
            clear hv
            have hM := HM2.out
            rw [HV2.out] at hM
            have HS := Lib.hid (swap_any hb base g cap' next (fv f) ys i d x z w2 hM.obj hM.row HXX.out HZZ.out HKC.out.2.2.1)
            have HM3 := Lib.hid hM
            clear hM
            go_wp2_with (go_at_call 41; ((with_reducible refine (HS.out).mono ?_); rintro e w3 ⟨rfl, hr, hf⟩; have HR := Lib.hid hr; have HF := Lib.hid hf; clear hr hf))
            go_roundw
            case rel =>
              refine ⟨d, (ys.set i z).set d x, by go_num, by have := HLI.out; have := HKC.out; omega, by have := HX.out; have := HN.out; have := lt_of_get HZZ.out; omega, ?_, ?_⟩
              · have hm := HM3.out.swap HKC.out.2.2.1 HXX.out HZZ.out HR.out HF.out
                rw [← HV2.out] at hm
                exact hm
              · exact down_step (swo_bef σ) HU.out HLI.out HKC.out.1 HKC.out.2.1 HXX.out HZZ.out HT2.out HSIB.out
            case measure =>
              have e1 := HX.out
              have e2 := HKC.out
              have e3 := lt_of_get HZZ.out
              have e4 := HN.out
              simp [intOf]
              omega
          | false =>
            have hcon2 := before_any hb base f σ HC.out v next ys d i z x w' HMM.out.obj HMM.out.row HZZ.out HXX.out
            rw [hlt2] at hcon2
            have HCON2 := Lib.hid hcon2
            have HT2 := Lib.hid hlt2
            clear hcon2 hlt2
            refine (HCON2.out).mono ?_
            rintro e w2 ⟨rfl, hbe2⟩
            go_wp2_with fail
            refine bodyPost_ret (results_none rfl _ _ _) rfl ?_
            exact ⟨rfl, ys, HMM.out.below hbe2, down_end HU.out (child_ok HXX.out HT2.out HSIB.out)⟩
        | false =>
          have hcon := before_any hb base f σ HC.out v next ys d c z y wr HM.out.obj HM.out.row HZZ.out HYY.out
          rw [hlt] at hcon
          have HCON := Lib.hid hcon
          have HSIB := Lib.hid ((sib_two (σ := σ) (by have := HYY.out; rwa [← HCC.out] at this) (by have := HZZ.out; rwa [← HDD.out, ← HCC.out] at this)).2 hlt)
          clear hcon hlt
          go_wp2_with (go_at_call 40; ((with_reducible refine (HCON.out).mono ?_); rintro e w' ⟨rfl, hbe⟩; have HBE := Lib.hid hbe; clear hbe))
          have HKC := Lib.hid (show (c - 1) / 2 = i ∧ 0 < c ∧ i ≠ c ∧ i < c from by have := HCC.out; have := HDD.out; omega)
          have HMM := Lib.hid (HM.out.below HBE.out)
          cases hlt2 : bef σ y x with
          | true =>
            have hcon2 := before_any hb base f σ HC.out v next ys c i y x w' HMM.out.obj HMM.out.row HYY.out HXX.out
            rw [hlt2] at hcon2
            have HCON2 := Lib.hid hcon2
            have HT2 := Lib.hid hlt2
            clear hcon2 hlt2
            refine (HCON2.out).mono ?_
            rintro e w2 ⟨rfl, hbe2⟩
            have HM2 := Lib.hid (HMM.out.below hbe2)
            clear hbe2
            obtain ⟨g, cap', hv, _⟩ := row_at HM2.out.row (by have := HN.out; omega)
            have HV2 := Lib.hid hv
            clear hv
            have hM := HM2.out
            rw [HV2.out] at hM
            have HS := Lib.hid (swap_any hb base g cap' next (fv f) ys i c x y w2 hM.obj hM.row HXX.out HYY.out HKC.out.2.2.1)
            have HM3 := Lib.hid hM
            clear hM
            go_wp2_with (go_at_call 41; ((with_reducible refine (HS.out).mono ?_); rintro e w3 ⟨rfl, hr, hf⟩; have HR := Lib.hid hr; have HF := Lib.hid hf; clear hr hf))
            go_roundw
            case rel =>
              refine ⟨c, (ys.set i y).set c x, by go_num, by have := HLI.out; have := HKC.out; omega, by have := HX.out; have := HN.out; have := lt_of_get HYY.out; omega, ?_, ?_⟩
              · have hm := HM3.out.swap HKC.out.2.2.1 HXX.out HYY.out HR.out HF.out
                rw [← HV2.out] at hm
                exact hm
              · exact down_step (swo_bef σ) HU.out HLI.out HKC.out.1 HKC.out.2.1 HXX.out HYY.out HT2.out HSIB.out
            case measure =>
              have e1 := HX.out
              have e2 := HKC.out
              have e3 := lt_of_get HYY.out
              have e4 := HN.out
              simp [intOf]
              omega
          | false =>
            have hcon2 := before_any hb base f σ HC.out v next ys c i y x w' HMM.out.obj HMM.out.row HYY.out HXX.out
            rw [hlt2] at hcon2
            have HCON2 := Lib.hid hcon2
            have HT2 := Lib.hid hlt2
            clear hcon2 hlt2
            refine (HCON2.out).mono ?_
            rintro e w2 ⟨rfl, hbe2⟩
            go_wp2_with fail
            refine bodyPost_ret (results_none rfl _ _ _) rfl ?_
            exact ⟨rfl, ys, HMM.out.below hbe2, down_end HU.out (child_ok HXX.out HT2.out HSIB.out)⟩
      · have hdn' : (n : Int) ≤ (d : Int) := by omega
        have HSIB := Lib.hid (sib_one (σ := σ) (by have := HYY.out; rwa [← HCC.out] at this) (by have := HN.out; have := HCC.out; have := HDD.out; omega))
        have HY1 : Hid (ys[2 * i + 1]? = some y) := by have := HYY.out; rwa [← HCC.out] at this
        clear hdn
        go_wp2_with fail
        have HKC := Lib.hid (show (c - 1) / 2 = i ∧ 0 < c ∧ i ≠ c ∧ i < c from by have := HCC.out; have := HDD.out; omega)
        have HMM := Lib.hid (HM.out)
        cases hlt2 : bef σ y x with
        | true =>
          have hcon2 := before_any hb base f σ HC.out v next ys c i y x wr HMM.out.obj HMM.out.row HYY.out HXX.out
          rw [hlt2] at hcon2
          have HCON2 := Lib.hid hcon2
          have HT2 := Lib.hid hlt2
          clear hcon2 hlt2
          refine (HCON2.out).mono ?_
          rintro e w2 ⟨rfl, hbe2⟩
          have HM2 := Lib.hid (HMM.out.below hbe2)
          clear hbe2
          obtain ⟨g, cap', hv, _⟩ := row_at HM2.out.row (by have := HN.out; omega)
          have HV2 := Lib.hid hv
          clear hv
          have hM := HM2.out
          rw [HV2.out] at hM
          have HS := Lib.hid (swap_any hb base g cap' next (fv f) ys i c x y w2 hM.obj hM.row HXX.out HYY.out HKC.out.2.2.1)
          have HM3 := Lib.hid hM
          clear hM
          go_wp2_with (go_at_call 41; ((with_reducible refine (HS.out).mono ?_); rintro e w3 ⟨rfl, hr, hf⟩; have HR := Lib.hid hr; have HF := Lib.hid hf; clear hr hf))
          go_roundw
          case rel =>
            refine ⟨c, (ys.set i y).set c x, by go_num, by have := HLI.out; have := HKC.out; omega, by have := HX.out; have := HN.out; have := lt_of_get HYY.out; omega, ?_, ?_⟩
            · have hm := HM3.out.swap HKC.out.2.2.1 HXX.out HYY.out HR.out HF.out
              rw [← HV2.out] at hm
              exact hm
            · exact down_step (swo_bef σ) HU.out HLI.out HKC.out.1 HKC.out.2.1 HXX.out HYY.out HT2.out HSIB.out
          case measure =>
            have e1 := HX.out
            have e2 := HKC.out
            have e3 := lt_of_get HYY.out
            have e4 := HN.out
            simp [intOf]
            omega
        | false =>
          have hcon2 := before_any hb base f σ HC.out v next ys c i y x wr HMM.out.obj HMM.out.row HYY.out HXX.out
          rw [hlt2] at hcon2
          have HCON2 := Lib.hid hcon2
          have HT2 := Lib.hid hlt2
          clear hcon2 hlt2
          refine (HCON2.out).mono ?_
          rintro e w2 ⟨rfl, hbe2⟩
          go_wp2_with fail
          refine bodyPost_ret (results_none rfl _ _ _) rfl ?_
          exact ⟨rfl, ys, HMM.out.below hbe2, down_end HU.out (child_ok HXX.out HT2.out HSIB.out)⟩
    · have hcn' : (n : Int) ≤ (c : Int) := by omega
      clear hcn
      go_wp2_with fail
      refine bodyPost_ret (results_none rfl _ _ _) rfl ?_
      exact ⟨rfl, ys, HM.out, down_end HU.out (no_child (by have := HN.out; have := HCC.out; omega))⟩

end Go.Proofs.Ytlhgoklojhgfeaa
