/- The contract of up: the row holds the same elements, in the heap's order.
   Conditions: the indices lie in the row; before the call the row is in order but for one place. -/
import Derived.Test.YtlhgoklojhgfeaaC
import Derived.Test.YtlhgoklojhgfeaaP
import Derived.Deep.LoopGhost
namespace Go.Proofs.Ytlhgoklojhgfeaa
open Go.RowKit Go.HeapW Go.HeapP
set_option linter.unusedSimpArgs false
set_option linter.unusedVariables false

theorem bef_iff (σ : Int → Int) (a b : It) : bef σ a b = true ↔ (σ a.k < σ b.k ∨ (σ a.k = σ b.k ∧ a.s < b.s)) := by
  simp only [bef, Bool.or_eq_true, Bool.and_eq_true, Bool.not_eq_true', decide_eq_true_eq, decide_eq_false_iff_not]
  omega
theorem bef_not (σ : Int → Int) (a b : It) : bef σ a b = false ↔ ¬ (σ a.k < σ b.k ∨ (σ a.k = σ b.k ∧ a.s < b.s)) := by
  rw [← bef_iff, Bool.not_eq_true]
theorem swo_bef (σ : Int → Int) : Swo (bef σ) := by
  constructor
  · intro a b h
    rw [bef_iff] at h
    rw [bef_not]
    omega
  · intro a b c h1 h2
    rw [bef_not] at h1 h2 ⊢
    omega

theorem HRow.congr {w : World} {base : Nat} {v : Value} {xs ys : List It} (h : HRow w base v xs) (e : xs = ys) : HRow w base v ys := e ▸ h

/-- What holds while an element moves: the row's elements ys, the heap's cells, what may have changed. -/
structure Mv (w wr : World) (hb base : Nat) (f : Nat) (v : Value) (next : Int) (xs ys : List It) : Prop where
  obj : HObj wr hb (fv f) v next
  row : HRow wr base v ys
  perm : ys.Perm xs
  fr : Fr (fun k => v.ownBlock = some k) w wr

theorem Mv.start {w : World} {hb base f : Nat} {v : Value} {next : Int} {xs : List It} (hO : HObj w hb (fv f) v next) (hR : HRow w base v xs) : Mv w w hb base f v next xs xs :=
  ⟨hO, hR, List.Perm.refl _, Fr.refl _ _⟩
theorem Mv.len {w wr : World} {hb base f : Nat} {v : Value} {next : Int} {xs ys : List It} (h : Mv w wr hb base f v next xs ys) : ys.length = xs.length := h.perm.length_eq
/-- Behind a call that only makes memory. -/
theorem Mv.below {w wr w' : World} {hb base f : Nat} {v : Value} {next : Int} {xs ys : List It} (h : Mv w wr hb base f v next xs ys) (hb' : Below wr.heap.size wr w') : Mv w w' hb base f v next xs ys :=
  ⟨(Fr.of_below (S := fun _ => False) hb').keep h.obj (fun x => x), (Fr.of_below (S := fun _ => False) hb').owns h.row (fun _ _ x => x), h.perm, h.fr.trans (Fr.of_below hb')⟩
/-- Behind an exchange. -/
theorem Mv.swap {w wr w' : World} {hb base f g cap : Nat} {next : Int} {xs ys : List It} {i j : Nat} {x y : It} (h : Mv w wr hb base f (.slice (some ⟨g, 0, none⟩) ys.length cap) next xs ys) (hij : i ≠ j)
    (hi : ys[i]? = some x) (hj : ys[j]? = some y) (hr : HRow w' base (.slice (some ⟨g, 0, none⟩) ys.length cap) ((ys.set i y).set j x)) (hf : Fr (fun k => k = g) wr w') :
    Mv w w' hb base f (.slice (some ⟨g, 0, none⟩) ys.length cap) next xs ((ys.set i y).set j x) :=
  ⟨hf.keep h.obj (fun e => owns_ne h.row h.obj (by decide) (by rw [e]; rfl)), hr, (sw_perm hij hi hj).trans h.perm, h.fr.trans (hf.mono fun k _ e => by subst e; rfl)⟩

def UpRel (w : World) (hb base f : Nat) (v : Value) (next : Int) (σ : Int → Int) (xs : List It) (s : Value) (wr : World) : Prop :=
  ∃ (i : Nat) (ys : List It), s = .int .i64 i ∧ i < xs.length ∧ Mv w wr hb base f v next xs ys ∧ UpInv (bef σ) ys i

/-- A move has ended. -/
def Moved (w wr : World) (hb base f : Nat) (v : Value) (next : Int) (σ : Int → Int) (xs : List It) (lo : Nat) : Prop := ∃ ys, Mv w wr hb base f v next xs ys ∧ From (bef σ) ys lo

set_option maxHeartbeats 2000000 in
theorem up_any (hb base : Nat) (f : Nat) (σ : Int → Int) (hc : Cmp f σ) (v : Value) (next : Int) (xs : List It) (i : Nat) (w : World)
    (hO : HObj w hb (fv f) v next) (hR : HRow w base v xs) (hi : i < xs.length) (hlen : xs.length ≤ 1000000) (hU : UpInv (bef σ) xs i) :
    Calls Try.prog 36 #[.pointer (some ⟨hb, 0, none⟩), .int .i64 i] w fun e w' => e = .returned (.tuple #[]) ∧ Moved w w' hb base f v next σ xs 0 := by
  have HR0 : UpRel w hb base f v next σ xs (.int .i64 i) w := ⟨i, xs, rfl, hi, Mv.start hO hR, hU⟩
  obtain ⟨g, cap, hv, _⟩ := row_at hR (by omega)
  have HC := Lib.hid hc
  have HV := Lib.hid hv
  have HL := Lib.hid hlen
  clear hc hO hR hU hv hlen hi
  go_enter Try.func36, Try.ntmps36
  go_wp2_with fail
  go_loopw [1] (fun s wr => UpRel w hb base f v next σ xs s wr) (fun s _ => (intOf s).toNat)
  case atStart => exact HR0
  case round =>
    clear HR0
    obtain ⟨i, ys, rfl, hi, hM, hU⟩ := hrel
    have hys := hM.len
    have HM := Lib.hid hM
    have HU := Lib.hid hU
    have HY := Lib.hid hys
    clear hM hU hys
    have hbd : (i : Int) ≤ 1000000 := by have := HL.out; omega
    by_cases h0 : i = 0
    · subst h0
      clear hi hbd
      go_wp2_with fail
      go_end0
      exact ⟨rfl, ys, HM.out, up_end HU.out (fun h => absurd h (Nat.lt_irrefl _))⟩
    · obtain ⟨q, hq⟩ : ∃ q, (i - 1) / 2 = q := ⟨_, rfl⟩
      obtain ⟨x, hx⟩ : ∃ x, ys[i]? = some x := ⟨_, List.getElem?_eq_getElem (by have := HY.out; omega)⟩
      obtain ⟨p, hp⟩ : ∃ p, ys[q]? = some p := ⟨_, List.getElem?_eq_getElem (by have := HY.out; omega)⟩
      have hd : ((i : Int) - 1) / 2 = (q : Int) := by omega
      have h1 : (1 : Int) ≤ i := by omega
      have hne : i ≠ q := by omega
      have HX := Lib.hid hx
      have HP := Lib.hid hp
      have HQ := Lib.hid hq
      have HN := Lib.hid hne
      clear hx hp hq hne
      cases hlt : bef σ x p with
      | true =>
        have HT := Lib.hid hlt
        have hcon := before_any hb base f σ HC.out v next ys i q x p wr HM.out.obj HM.out.row HX.out HP.out
        rw [hlt] at hcon
        have HCON := Lib.hid hcon
        clear hcon hlt h0
        go_wp2_with (go_at_call 40; refine (HCON.out).mono ?_; rintro e w' ⟨rfl, hbe⟩)
        have hv' : v = .slice (some ⟨g, 0, none⟩) ys.length cap := by rw [HY.out]; exact HV.out
        have hM := HM.out.below hbe
        rw [hv'] at hM
        have HS := Lib.hid (swap_any hb base g cap next (fv f) ys i q x p w' hM.obj hM.row HX.out HP.out HN.out)
        have HV' := Lib.hid hv'
        have HM' := Lib.hid hM
        clear hv' hM hbe
        refine (HS.out).mono ?_
        rintro e w2 ⟨rfl, hr, hf⟩
        have HR := Lib.hid hr
        have HF := Lib.hid hf
        clear hr hf
        go_wp2_with fail
        go_roundw
        case rel =>
          refine ⟨q, (ys.set i p).set q x, by go_num, by omega, ?_, ?_⟩
          · have hm := HM'.out.swap HN.out HX.out HP.out HR.out HF.out
            rw [← HV'.out] at hm
            exact hm
          · have hu := up_step (swo_bef σ) HU.out (by omega) HX.out (by rw [HQ.out]; exact HP.out) HT.out
            rw [HQ.out] at hu
            exact hu
        case measure => simp [intOf]; omega
      | false =>
        have HT := Lib.hid hlt
        have hcon := before_any hb base f σ HC.out v next ys i q x p wr HM.out.obj HM.out.row HX.out HP.out
        rw [hlt] at hcon
        have HCON := Lib.hid hcon
        clear hcon hlt h0
        go_wp2_with (go_at_call 40; refine (HCON.out).mono ?_; rintro e w' ⟨rfl, hbe⟩)
        go_end0
        exact ⟨rfl, ys, HM.out.below hbe, up_end HU.out (fun _ x' p' hx' hp' => by
          have e1 := HX.out
          have e2 := HP.out
          rw [← HQ.out] at e2
          rw [e1] at hx'
          rw [e2] at hp'
          cases hx'
          cases hp'
          exact HT.out)⟩

end Go.Proofs.Ytlhgoklojhgfeaa
