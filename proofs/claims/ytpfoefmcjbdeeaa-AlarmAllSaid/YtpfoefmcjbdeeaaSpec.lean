/-
  The reference's small functions, as lists: Find, put, without, Same.
-/
import Derived.Test.YtpfoefmcjbdeeaaCall
namespace Go.Proofs.Ytpfoefmcjbdeeaa
open Go.RowKit
open Go.Proofs.Ytpfoefmcjbdeeaa.PAlarmAll

def to46 (x : S38) : S46 := ⟨x.f0, x.f1⟩
def m46 (l : List S38) : List S46 := l.map to46
theorem m46_length (l : List S38) : (m46 l).length = l.length := by simp [m46]
theorem rd46 (l : List S38) (i : Int) : rd_T46 (m46 l) i = to46 (rd_T38 l i) := by
  simp only [rd_T46, rd_T38, m46, List.getD_eq_getElem?_getD, List.getElem?_map]
  cases l[i.toNat]? <;> rfl
theorem wrap_up {i : Int} {n : Nat} (h0 : 0 ≤ i) (h : i < (n : Int)) (hn : n < 1000000) : wrap64 (i + 1) = i + 1 := by unfold wrap64; omega

theorem find_at (l : List S38) (id : Int) (hl : l.length < 1000000) (k : Nat) (hk : k < l.length) (e : (rd_T38 l k).f1 = id) (d : Dist l) : ∃ n, chicaneref06_Find.f n (m46 l) id = some (k : Int) := by
  have key : ∀ (m i : Nat), k - i = m → i ≤ k → chicaneref06_Find.l0 (m + 1) (m46 l) id i = some (k : Int) := by
    intro m
    induction m with
    | zero =>
      intro i h1 h2
      obtain rfl : i = k := by omega
      simp only [chicaneref06_Find.l0]
      rw [if_pos (by rw [m46_length]; omega), if_pos (by omega), rd46, if_pos (by simpa [to46] using e)]
    | succ m ih =>
      intro i h1 h2
      have hik : i < k := by omega
      simp only [chicaneref06_Find.l0]
      rw [if_pos (by rw [m46_length]; omega), if_pos (by omega), rd46, if_neg, wrap_up (n := l.length) (by omega) (by omega) hl]
      · exact ih (i + 1) (by omega) (by omega)
      · intro e2
        have : (rd_T38 l i).f1 = (rd_T38 l k).f1 := by rw [e]; exact e2
        have := d i k (by omega) hk this
        omega
  exact ⟨k + 1, key k 0 (by omega) (by omega)⟩
theorem find_none (l : List S38) (id : Int) (hl : l.length < 1000000) (hn : ∀ j : Nat, j < l.length → (rd_T38 l j).f1 ≠ id) : ∃ n, chicaneref06_Find.f n (m46 l) id = some (-1) := by
  have key : ∀ (m i : Nat), l.length - i = m → i ≤ l.length → chicaneref06_Find.l0 (m + 1) (m46 l) id i = some (-1) := by
    intro m
    induction m with
    | zero =>
      intro i h1 h2
      simp only [chicaneref06_Find.l0]
      rw [if_neg (by rw [m46_length]; omega)]
    | succ m ih =>
      intro i h1 h2
      simp only [chicaneref06_Find.l0]
      rw [if_pos (by rw [m46_length]; omega), if_pos (by omega), rd46, if_neg, wrap_up (n := l.length) (by omega) (by omega) hl]
      · exact ih (i + 1) (by omega) (by omega)
      · exact hn i (by omega)
  exact ⟨l.length + 1, key l.length 0 (by omega) (by omega)⟩
theorem same_refl (l : List S46) (hl : l.length < 1000000) : ∃ n, chicaneref06_Same.f n l l = some true := by
  have key : ∀ (m i : Nat), l.length - i = m → i ≤ l.length → chicaneref06_Same.l0 (m + 1) l l i = some true := by
    intro m
    induction m with
    | zero =>
      intro i h1 h2
      simp only [chicaneref06_Same.l0]
      rw [if_neg (by omega)]
    | succ m ih =>
      intro i h1 h2
      simp only [chicaneref06_Same.l0]
      rw [if_pos (by omega), if_pos (by omega), if_pos (by omega), if_neg (by simp), wrap_up (n := l.length) (by omega) (by omega) hl]
      exact ih (i + 1) (by omega) (by omega)
  refine ⟨l.length + 1, ?_⟩
  unfold chicaneref06_Same.f
  rw [if_pos rfl]
  exact key l.length 0 (by omega) (by omega)
theorem small (n : Nat) (h : n < 4000000) : n < 8796093022208 := by omega
theorem m46_out (l : List S38) (k : Nat) : m46 (outD l k) = (m46 l).take k ++ (m46 l).drop (k + 1) := by
  unfold outD m46
  rw [List.map_append, List.map_take, List.map_drop]
theorem without_at (l : List S38) (hl : l.length < 1000000) (k : Nat) (hk : k < l.length) : chicaneref06_without.f (m46 l) k = some (m46 (outD l k)) := by
  have hm := m46_length l
  have hw : wrap64 ((k : Int) + 1) = ((k + 1 : Nat) : Int) := by rw [wrap_up (n := l.length) (by omega) (by omega) hl]; omega
  rw [m46_out]
  generalize m46 l = L at hm
  unfold chicaneref06_without.f
  simp only [Option.bind_some, List.nil_append, hw, Int.toNat_natCast]
  have h1 : ((k : Int) ≤ (L.length : Int)) := by omega
  have h2 : (((k + 1 : Nat) : Int) ≤ (L.length : Int)) := by omega
  have h3 : ([] : List S46).length + (L.take k).length < 8796093022208 := small _ (by simp; omega)
  have h4 : (L.take k).length + (L.drop (k + 1)).length < 8796093022208 := small _ (by simp; omega)
  rw [if_pos (Int.natCast_nonneg k), if_pos h1, if_pos h3, if_pos (Int.natCast_nonneg (k + 1)), if_pos h2, if_pos h4]

theorem put_l0_done (k : Nat) (x0 x5 : List S46) (x7 x y : Int) : chicaneref06_put.l0 (k + 1) x0 x5 true x7 x y =
    if x7 < (x0.length : Int) then (if 0 ≤ x7 then (if x5.length < 8796093022208 then (chicaneref06_put.l0 k x0 (x5 ++ [(⟨(rd_T46 x0 x7).f0, (rd_T46 x0 x7).f1⟩ : S46)]) true (wrap64 (x7 + 1)) x y) else none) else none) else some x5 := by
  rw [chicaneref06_put.l0]; rfl
theorem put_l0_end (k : Nat) (x0 x5 : List S46) (x7 x y : Int) (h : ¬ x7 < (x0.length : Int)) (h2 : x5.length < 8796093022208) : chicaneref06_put.l0 (k + 1) x0 x5 false x7 x y = some (x5 ++ [⟨x, y⟩]) := by
  rw [chicaneref06_put.l0, if_neg h, if_neg (by simp), if_pos h2]
theorem put_l0_hit (k : Nat) (x0 x5 : List S46) (x7 x y : Int) (h : x7 < (x0.length : Int)) (h0 : 0 ≤ x7) (h2 : x5.length < 8796093022208) (h3 : (x5 ++ [(⟨x, y⟩ : S46)]).length < 8796093022208)
    (hc : x < (rd_T46 x0 x7).f0 ∨ (x = (rd_T46 x0 x7).f0 ∧ y < (rd_T46 x0 x7).f1)) :
    chicaneref06_put.l0 (k + 1) x0 x5 false x7 x y = chicaneref06_put.l0 k x0 (x5 ++ [(⟨x, y⟩ : S46)] ++ [(⟨(rd_T46 x0 x7).f0, (rd_T46 x0 x7).f1⟩ : S46)]) true (wrap64 (x7 + 1)) x y := by
  rw [chicaneref06_put.l0, if_pos h, if_neg (by simp), if_pos h0]
  rcases hc with hc | ⟨h4, h5⟩
  · rw [if_pos hc, if_pos h2, Option.bind_some, if_pos h3]
  · rw [if_neg (by omega), if_pos h4, if_pos h5, if_pos h2, Option.bind_some, if_pos h3]
theorem put_l0_miss (k : Nat) (x0 x5 : List S46) (x7 x y : Int) (h : x7 < (x0.length : Int)) (h0 : 0 ≤ x7) (h2 : x5.length < 8796093022208)
    (hc : ¬ (x < (rd_T46 x0 x7).f0 ∨ (x = (rd_T46 x0 x7).f0 ∧ y < (rd_T46 x0 x7).f1))) :
    chicaneref06_put.l0 (k + 1) x0 x5 false x7 x y = chicaneref06_put.l0 k x0 (x5 ++ [(⟨(rd_T46 x0 x7).f0, (rd_T46 x0 x7).f1⟩ : S46)]) false (wrap64 (x7 + 1)) x y := by
  rw [chicaneref06_put.l0, if_pos h, if_neg (by simp), if_pos h0, if_neg (by omega)]
  by_cases h4 : x = (rd_T46 x0 x7).f0
  · rw [if_pos h4, if_neg (by omega), if_pos h2]
  · rw [if_neg h4, if_pos h2]

theorem put_done (l : List S46) (x y : Int) (hl : l.length < 1000000) : ∀ (m i : Nat), l.length - i = m → i ≤ l.length → (out : List S46) → out.length < 1000010 + i → chicaneref06_put.l0 (m + 1) l out true i x y = some (out ++ l.drop i) := by
  intro m
  induction m with
  | zero =>
    intro i h1 h2 out h3
    rw [put_l0_done, if_neg (by omega), List.drop_of_length_le (by omega), List.append_nil]
  | succ m ih =>
    intro i h1 h2 out h3
    have hi : i < l.length := by omega
    rw [put_l0_done, if_pos (by omega), if_pos (by omega), if_pos (small _ (by omega)), wrap_up (n := l.length) (by omega) (by omega) hl]
    have := ih (i + 1) (by omega) (by omega) (out ++ [(⟨(rd_T46 l i).f0, (rd_T46 l i).f1⟩ : S46)]) (by simp; omega)
    refine Eq.trans this ?_
    have e : (⟨(rd_T46 l i).f0, (rd_T46 l i).f1⟩ : S46) = l[i] := by simp [rd_T46, hi]
    rw [e, List.append_assoc, List.drop_eq_getElem_cons hi]
    rfl
theorem drop_rd (l : List S38) (i : Nat) (hi : i < l.length) : l.drop i = rd_T38 l i :: l.drop (i + 1) := by
  rw [List.drop_eq_getElem_cons hi]
  simp [rd_T38, hi]
theorem put_at (l : List S38) (d : S38) (hl : l.length < 1000000) : ∃ n, chicaneref06_put.f n (m46 l) d.f0 d.f1 = some (m46 (putD l d)) := by
  have hm := m46_length l
  have key : ∀ (m i : Nat), l.length - i = m → i ≤ l.length → (out : List S46) → out.length ≤ i → chicaneref06_put.l0 (m + 1) (m46 l) out false i d.f0 d.f1 = some (out ++ m46 (putD (l.drop i) d)) := by
    intro m
    induction m with
    | zero =>
      intro i h1 h2 out h3
      rw [put_l0_end _ _ _ _ _ _ (by omega) (small _ (by omega)), List.drop_of_length_le (by omega)]
      rfl
    | succ m ih =>
      intro i h1 h2 out h3
      have hi : i < l.length := by omega
      have hr := rd46 l i
      by_cases hc : ahd d (rd_T38 l i) = true
      · have hc2 := (ahd_iff _ _).1 hc
        rw [put_l0_hit _ _ _ _ _ _ (by omega) (by omega) (small _ (by omega)) (small _ (by simp; omega)) (by rw [hr]; exact hc2), wrap_up (n := l.length) (by omega) (by omega) hl]
        have := put_done (m46 l) d.f0 d.f1 (by omega) m (i + 1) (by omega) (by omega) (out ++ [(⟨d.f0, d.f1⟩ : S46)] ++ [(⟨(rd_T46 (m46 l) i).f0, (rd_T46 (m46 l) i).f1⟩ : S46)]) (by simp; omega)
        refine Eq.trans this ?_
        rw [hr, drop_rd l i hi]
        unfold putD
        simp only [List.takeWhile_cons, List.dropWhile_cons, hc, Bool.not_true, Bool.false_eq_true, if_false, List.nil_append]
        simp only [m46, List.map_cons, List.map_drop, List.append_assoc, List.cons_append, List.nil_append]
        rfl
      · have hc2 : ahd d (rd_T38 l i) = false := by simpa using hc
        rw [put_l0_miss _ _ _ _ _ _ (by omega) (by omega) (small _ (by omega)) (by rw [hr]; exact fun h => hc ((ahd_iff _ _).2 h)), wrap_up (n := l.length) (by omega) (by omega) hl]
        have := ih (i + 1) (by omega) (by omega) (out ++ [(⟨(rd_T46 (m46 l) i).f0, (rd_T46 (m46 l) i).f1⟩ : S46)]) (by simp; omega)
        refine Eq.trans this ?_
        rw [hr, drop_rd l i hi]
        unfold putD
        simp only [List.takeWhile_cons, List.dropWhile_cons, hc2, Bool.not_false, if_true]
        simp only [m46, List.map_cons, List.append_assoc, List.cons_append, List.nil_append]
  refine ⟨l.length + 1, ?_⟩
  unfold chicaneref06_put.f
  have := key l.length 0 (by omega) (by omega) [] (by simp)
  simpa using this
end Go.Proofs.Ytpfoefmcjbdeeaa
