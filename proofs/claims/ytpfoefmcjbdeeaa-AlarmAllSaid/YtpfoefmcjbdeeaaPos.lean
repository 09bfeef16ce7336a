/-
  The heap of alarms and the map of places, as lists and numbers; what swap does to both.
-/
import Derived.Test.YtpfoefmcjbdeeaaSwap
namespace Go.Proofs.Ytpfoefmcjbdeeaa
open Go.RowKit Go.Maps Go.Proofs.YtpfoefmcjbdeeaaW.PrintWords Go.Proofs.YtpfoefmcjbdeeaaW.PrintLast Go.Proofs.YtpfoefmcjbdeeaaW.PrintMore
open Go.Proofs.Ytpfoefmcjbdeeaa.PAlarmAll

abbrev idl (i : Int) : Lit := .int .i64 i
abbrev zl : D0 := .lit (.int .i64 0)

/-- The map tells where each number stands. -/
structure Pos (h : List S38) (D : D0) : Prop where
  len : size D = h.length
  few : h.length < 900000
  id : ∀ j : Nat, j < h.length → 0 ≤ (rd_T38 h j).f1 ∧ (rd_T38 h j).f1 < 4611686018427387904
  at_ : ∀ j : Nat, j < h.length → has D (idl (rd_T38 h j).f1) = true ∧ ∀ z, D.atKey (idl (rd_T38 h j).f1) z = .lit (.int .i64 j)
  only : ∀ i : Int, has D (idl i) = true → ∃ j : Nat, j < h.length ∧ (rd_T38 h j).f1 = i

theorem Pos.inj {h : List S38} {D : D0} (p : Pos h D) (i j : Nat) (hi : i < h.length) (hj : j < h.length) (e : (rd_T38 h i).f1 = (rd_T38 h j).f1) : i = j := by
  have h1 := (p.at_ i hi).2 zl
  have h2 := (p.at_ j hj).2 zl
  rw [e, h2] at h1
  injection h1 with h1; injection h1 with _ h1; omega

theorem rd_set (h : List S38) (i : Nat) (d : S38) (j : Nat) : rd_T38 (h.set i d) j = if i = j ∧ j < h.length then d else rd_T38 h j := by
  simp only [rd_T38, Int.toNat_natCast, List.getD_eq_getElem?_getD, List.getElem?_set]
  by_cases e : i = j
  · subst e
    by_cases hl : i < h.length
    · simp [hl]
    · simp [hl]
  · simp [e]

/-- Two have changed places. -/
def swp (h : List S38) (i k : Nat) : List S38 := (h.set i (rd_T38 h k)).set k (rd_T38 h i)
theorem swp_length (h : List S38) (i k : Nat) : (swp h i k).length = h.length := by simp [swp]
theorem rd_swp (h : List S38) (i k : Nat) (hi : i < h.length) (hk : k < h.length) (j : Nat) : rd_T38 (swp h i k) j = if j = k then rd_T38 h i else if j = i then rd_T38 h k else rd_T38 h j := by
  unfold swp
  rw [rd_set, rd_set]
  simp only [List.length_set]
  by_cases e1 : k = j
  · subst e1; simp [hk]
  · by_cases e2 : i = j
    · subst e2; simp [e1, hi, Ne.symm e1]
    · simp [e1, e2, Ne.symm e1, Ne.symm e2]
theorem isKey_i64 (i : Int) : WideAt.IsKeyLit (idl i) := trivial
theorem Pos.swap {h : List S38} {D : D0} (p : Pos h D) (t : Tidy D) (i k : Nat) (hi : i < h.length) (hk : k < h.length) :
    Pos (swp h i k) ((D.put (idl (rd_T38 h k).f1) (.lit (.int .i64 i))).put (idl (rd_T38 h i).f1) (.lit (.int .i64 k))) := by
  have m := t.isMap
  have hhas : ∀ x, has ((D.put (idl (rd_T38 h k).f1) (.lit (.int .i64 i))).put (idl (rd_T38 h i).f1) (.lit (.int .i64 k))) (idl x) = has D (idl x) := by
    intro x
    by_cases e1 : idl x = idl (rd_T38 h i).f1
    · rw [e1, has_put_same (m.put _ _) (isKey_i64 _), (p.at_ i hi).1]
    · rw [has_put_other e1]
      by_cases e2 : idl x = idl (rd_T38 h k).f1
      · rw [e2, has_put_same m (isKey_i64 _), (p.at_ k hk).1]
      · rw [has_put_other e2]
  refine ⟨?_, ?_, ?_, ?_, ?_⟩
  · rw [swp_length, size_put (t.put (isKey_i64 _) _), size_put t, (p.at_ k hk).1]
    have : has (D.put (idl (rd_T38 h k).f1) (.lit (.int .i64 i))) (idl (rd_T38 h i).f1) = true := by
      by_cases e2 : idl (rd_T38 h i).f1 = idl (rd_T38 h k).f1
      · rw [e2, has_put_same m (isKey_i64 _)]
      · rw [has_put_other e2, (p.at_ i hi).1]
    rw [this]
    simpa using p.len
  · rw [swp_length]; exact p.few
  · intro j hj
    rw [swp_length] at hj
    rw [rd_swp h i k hi hk]
    split
    · exact p.id i hi
    · split
      · exact p.id k hk
      · exact p.id j hj
  · intro j hj
    rw [swp_length] at hj
    rw [rd_swp h i k hi hk]
    refine ⟨?_, fun z => ?_⟩
    · rw [hhas]
      split
      · exact (p.at_ i hi).1
      · split
        · exact (p.at_ k hk).1
        · exact (p.at_ j hj).1
    · by_cases e1 : j = k
      · subst e1
        rw [if_pos rfl, atKey_put_same (m.put _ _) (isKey_i64 _)]
      · rw [if_neg e1]
        by_cases e2 : j = i
        · subst e2
          rw [if_pos rfl]
          have hne : idl (rd_T38 h k).f1 ≠ idl (rd_T38 h j).f1 := by
            intro e; injection e with _ e; exact e1 (p.inj _ _ hk hj e).symm
          rw [atKey_put_other hne, atKey_put_same m (isKey_i64 _)]
        · rw [if_neg e2]
          have h1 : idl (rd_T38 h j).f1 ≠ idl (rd_T38 h i).f1 := by
            intro e; injection e with _ e; exact e2 (p.inj _ _ hj hi e)
          have h2 : idl (rd_T38 h j).f1 ≠ idl (rd_T38 h k).f1 := by
            intro e; injection e with _ e; exact e1 (p.inj _ _ hj hk e)
          rw [atKey_put_other h1, atKey_put_other h2]
          exact (p.at_ j hj).2 z
  · intro x hx
    rw [hhas] at hx
    obtain ⟨j, hj, e⟩ := p.only x hx
    by_cases e1 : j = k
    · subst e1
      refine ⟨i, by rw [swp_length]; exact hi, ?_⟩
      rw [rd_swp h i j hi hk]
      by_cases e2 : i = j
      · subst e2; simpa using e
      · simpa [e2] using e
    · by_cases e2 : j = i
      · subst e2
        refine ⟨k, by rw [swp_length]; exact hk, ?_⟩
        rw [rd_swp h j k hi hk]
        simpa using e
      · refine ⟨j, by rw [swp_length]; exact hj, ?_⟩
        rw [rd_swp h i k hi hk, if_neg e1, if_neg e2]
        exact e

/-- Is one ahead of another one? -/
def ahd (x y : S38) : Bool := decide (x.f0 < y.f0 ∨ (x.f0 = y.f0 ∧ x.f1 < y.f1))
theorem ahd_f (x y : S38) : alarm_ahead.f x.f0 x.f1 y.f0 y.f1 = some (ahd x y) := by
  unfold alarm_ahead.f ahd
  by_cases h1 : x.f0 < y.f0
  · simp [h1]
  · by_cases h2 : x.f0 = y.f0
    · simp [h2]
    · simp [h1, h2]

/-- What rise makes of the heap. -/
def riseF (h : List S38) (k : Nat) : List S38 :=
  if hk : 0 < k then if ahd (rd_T38 h k) (rd_T38 h ((k - 1) / 2 : Nat)) = true then riseF (swp h k ((k - 1) / 2)) ((k - 1) / 2) else h else h
termination_by k
decreasing_by omega

/-- The alarms, the map telling the places. -/
def Ax (base : Nat) (w : World) (g : Nat) (lv : Value) (mb : Nat) (h : List S38) (last : Int) : Prop := ∃ D, Al base w g lv mb h D last ∧ Pos h D

theorem ax_swap {base : Nat} {w : World} {g : Nat} {lv : Value} {mb : Nat} {h : List S38} {last : Int} (a : Ax base w g lv mb h last) (i k : Nat) (hi : i < h.length) (hk : k < h.length) :
    Calls Try.prog 37 #[.pointer (some ⟨g, 0, none⟩), .int .i64 i, .int .i64 k] w fun e w' => e = .returned (.tuple #[]) ∧ Ax base w' g lv mb (swp h i k) last ∧ Fr g lv mb w w' := by
  obtain ⟨D, a, p⟩ := a
  have := p.few
  refine (swap_calls a i k hi hk p.id (by rw [p.len]; omega) (by omega)).mono ?_
  rintro e w' ⟨rfl, a', f⟩
  exact ⟨rfl, ⟨_, a', p.swap (a.map.tidy keyed3) i k hi hk⟩, f⟩
end Go.Proofs.Ytpfoefmcjbdeeaa
