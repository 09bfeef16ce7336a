/-
  The heap, plainly: rise and sink make a heap; its first is the least; the sorted list of its members is one.
-/
import Derived.Test.YtpfoefmcjbdeeaaList
namespace Go.Proofs.Ytpfoefmcjbdeeaa
open Go.Proofs.Ytpfoefmcjbdeeaa.PAlarmAll
open Go.Sort

abbrev at_ (h : List S38) (i : Nat) : S38 := rd_T38 h i
/-- x is not ahead of y. -/
def nah (x y : S38) : Prop := ahd x y = false
theorem nah_iff (x y : S38) : nah x y ↔ (y.f0 < x.f0 ∨ (x.f0 = y.f0 ∧ y.f1 ≤ x.f1)) := by
  unfold nah; rw [Bool.eq_false_iff, ne_eq, ahd_iff]; omega
theorem nah_refl (x : S38) : nah x x := by rw [nah_iff]; omega
theorem nah_trans {x y z : S38} (h1 : nah x y) (h2 : nah y z) : nah x z := by rw [nah_iff] at *; omega
theorem nah_of_ahd {x y : S38} (h1 : ahd x y = true) : nah y x := by rw [nah_iff]; rw [ahd_iff] at h1; omega

/-- The heap, but for k and its parent. -/
structure UpInv (h : List S38) (k : Nat) : Prop where
  other : ∀ i, 0 < i → i < h.length → i ≠ k → nah (at_ h i) (at_ h ((i - 1) / 2))
  kids : ∀ i, 0 < i → i < h.length → (i - 1) / 2 = k → 0 < k → nah (at_ h i) (at_ h ((k - 1) / 2))
/-- The heap, but for k and its kids. -/
structure DownInv (h : List S38) (k : Nat) : Prop where
  other : ∀ i, 0 < i → i < h.length → (i - 1) / 2 ≠ k → nah (at_ h i) (at_ h ((i - 1) / 2))
  kids : ∀ i, 0 < i → i < h.length → (i - 1) / 2 = k → 0 < k → nah (at_ h i) (at_ h ((k - 1) / 2))

theorem rise_heap (k : Nat) : ∀ (h : List S38), k < h.length → UpInv h k → HeapOk (riseF h k) := by
  induction k using Nat.strongRecOn with
  | _ k ih =>
    intro h hk u
    rcases Nat.eq_zero_or_pos k with rfl | hpos
    · rw [riseF_stop0]
      intro i hi hl
      exact u.other i hi hl (by omega)
    · cases hc : ahd (rd_T38 h k) (rd_T38 h ((k - 1) / 2 : Nat)) with
      | false =>
        rw [riseF_stop h k hc]
        intro i hi hl
        by_cases e : i = k
        · subst e; exact hc
        · exact u.other i hi hl e
      | true =>
        rw [riseF_go h k hpos hc]
        have hp : (k - 1) / 2 < h.length := by omega
        refine ih _ (by omega) _ (by rw [swp_length]; exact hp) ⟨?_, ?_⟩
        · intro i hi hl hne
          rw [swp_length] at hl
          simp only [at_, rd_swp h k _ hk hp]
          by_cases e1 : i = k
          · subst e1
            rw [if_neg (by omega), if_pos rfl, if_pos rfl]
            exact nah_of_ahd hc
          · rw [if_neg hne, if_neg e1]
            by_cases e2 : (i - 1) / 2 = (k - 1) / 2
            · rw [if_pos e2]
              have := u.other i hi hl e1
              simp only [at_, e2] at this
              exact nah_trans this (nah_of_ahd hc)
            · rw [if_neg e2]
              by_cases e3 : (i - 1) / 2 = k
              · rw [if_pos e3]
                exact u.kids i hi hl e3 hpos
              · rw [if_neg e3]
                exact u.other i hi hl e1
        · intro i hi hl e0 hpp
          rw [swp_length] at hl
          have hq : ((k - 1) / 2 - 1) / 2 < h.length := by omega
          simp only [at_, rd_swp h k _ hk hp]
          rw [if_neg (by omega), if_neg (show ¬ ((k - 1) / 2 - 1) / 2 = (k - 1) / 2 by omega), if_neg (show ¬ ((k - 1) / 2 - 1) / 2 = k by omega)]
          have hpar := u.other ((k - 1) / 2) hpp hp (by omega)
          by_cases e1 : i = k
          · subst e1
            rw [if_pos rfl]
            exact hpar
          · rw [if_neg e1]
            have := u.other i hi hl e1
            simp only [at_, e0] at this
            exact nah_trans this hpar

theorem best_le (h : List S38) (k : Nat) : ∀ j c, j ≤ 2 → (c = k ∨ (2 * k + 1 ≤ c ∧ c < 2 * k + 1 + j ∧ c < h.length)) → nah (at_ h c) (at_ h (bestF h k j))
  | 0, c, _, hc => by
    have : c = k := by omega
    subst this
    exact nah_refl _
  | j + 1, c, hj, hc => by
    unfold bestF
    split
    · rename_i hg
      by_cases e : c = 2 * k + 1 + j
      · rw [e]; exact nah_refl _
      · exact nah_trans (best_le h k j c (by omega) (by omega)) (nah_of_ahd hg.2)
    · rename_i hg
      by_cases e : c = 2 * k + 1 + j
      · subst e
        simp only [not_and, Bool.not_eq_true] at hg
        exact hg (by omega)
      · exact best_le h k j c (by omega) (by omega)
theorem best_is (h : List S38) (k : Nat) : ∀ j, bestF h k j = k ∨ (2 * k + 1 ≤ bestF h k j ∧ bestF h k j < 2 * k + 1 + j ∧ bestF h k j < h.length)
  | 0 => .inl rfl
  | j + 1 => by
    unfold bestF
    split
    · rename_i hg; exact .inr ⟨by omega, by omega, hg.1⟩
    · rcases best_is h k j with e | e
      · exact .inl e
      · exact .inr ⟨e.1, by omega, e.2.2⟩

theorem sink_heap (h : List S38) (k : Nat) (hk : k < h.length) (u : DownInv h k) : HeapOk (sinkF h k) := by
  induction hn : h.length - k using Nat.strongRecOn generalizing h k with
  | _ n ih =>
    by_cases hb : bestF h k 2 = k
    · rw [sinkF_stop h k hb]
      intro i hi hl
      by_cases e : (i - 1) / 2 = k
      · have := best_le h k 2 i (by omega) (by omega)
        rw [hb] at this
        rw [e]; exact this
      · exact u.other i hi hl e
    · have hbl := bestF_lt h k hk 2
      rw [sinkF_go h k hk hb]
      have his := best_is h k 2
      obtain ⟨b, hbe⟩ : ∃ b, b = bestF h k 2 := ⟨_, rfl⟩
      have hle := fun c hc => best_le h k 2 c (by omega) hc
      rw [← hbe] at hb hbl his hle ⊢
      have hbr : 2 * k + 1 ≤ b ∧ b < 2 * k + 3 := by omega
      have hpb : (b - 1) / 2 = k := by omega
      refine ih _ (by rw [swp_length]; omega) (swp h k b) b (by rw [swp_length]; exact hbl) ⟨?_, ?_⟩ rfl
      · intro i hi hl hne
        rw [swp_length] at hl
        simp only [at_, rd_swp h k b hk hbl]
        by_cases e1 : i = b
        · subst e1
          rw [if_pos rfl, if_neg (by omega), if_pos hpb]
          exact hle k (by omega)
        · rw [if_neg e1]
          by_cases e2 : i = k
          · subst e2
            rw [if_pos rfl, if_neg (by omega), if_neg (show ¬ (i - 1) / 2 = i by omega)]
            exact u.kids b (by omega) hbl hpb (by omega)
          · rw [if_neg e2, if_neg hne]
            by_cases e3 : (i - 1) / 2 = k
            · rw [if_pos e3]
              exact hle i (by omega)
            · rw [if_neg e3]
              exact u.other i hi hl e3
      · intro i hi hl e0 hpp
        rw [swp_length] at hl
        simp only [at_, rd_swp h k b hk hbl]
        rw [if_neg (by omega), if_neg (by omega), if_neg (show ¬ (b - 1) / 2 = b by omega), if_pos hpb]
        have := u.other i hi hl (by omega)
        simp only [at_, e0] at this
        exact this

/-- In a heap sink stays. -/
theorem sink_still (h : List S38) (k : Nat) (ok : HeapOk h) : sinkF h k = h := by
  refine sinkF_stop h k ?_
  rcases best_is h k 2 with e | ⟨h1, h2, h3⟩
  · exact e
  · exfalso
    -- the best kid is none
    have hno : ∀ j, j ≤ 2 → bestF h k j = k := by
      intro j
      induction j with
      | zero => intro _; rfl
      | succ j ih =>
        intro hj
        rw [bestF, ih (by omega), if_neg]
        rintro ⟨hl, hc⟩
        have := ok (2 * k + 1 + j) (by omega) hl
        rw [show (2 * k + 1 + j - 1) / 2 = k by omega, hc] at this
        cases this
    have := hno 2 (by omega)
    omega

/-- One element of a heap has been replaced. -/
structure Hole (h : List S38) (k : Nat) : Prop where
  other : ∀ i, 0 < i → i < h.length → i ≠ k → (i - 1) / 2 ≠ k → nah (at_ h i) (at_ h ((i - 1) / 2))
  kids : ∀ i, 0 < i → i < h.length → (i - 1) / 2 = k → 0 < k → nah (at_ h i) (at_ h ((k - 1) / 2))
theorem hole_of_heap (h : List S38) (k : Nat) (hk : k < h.length) (ok : HeapOk h) (x : S38) : Hole (h.set k x) k := by
  refine ⟨fun i hi hl h1 h2 => ?_, fun i hi hl e hp => ?_⟩
  · simp only [List.length_set] at hl
    simp only [at_, rd_set]
    rw [if_neg (by omega), if_neg (by omega)]
    exact ok i hi hl
  · simp only [List.length_set] at hl
    simp only [at_, rd_set]
    rw [if_neg (by omega), if_neg (by omega)]
    have h1 := ok i hi hl
    rw [e] at h1
    exact nah_trans h1 (ok k hp hk)
/-- rise, and then sink where it was, or where it has come. -/
theorem rise_sink_heap (h : List S38) (k : Nat) (hk : k < h.length) (u : Hole h k) (q : Nat) (hqk : riseF h k = h → q = k) : HeapOk (sinkF (riseF h k) q) := by
  by_cases hup : 0 < k ∧ ahd (rd_T38 h k) (rd_T38 h ((k - 1) / 2 : Nat)) = true
  · have hok : HeapOk (riseF h k) := by
      refine rise_heap k h hk ⟨fun i hi hl hne => ?_, u.kids⟩
      by_cases e : (i - 1) / 2 = k
      · rw [e]
        exact nah_trans (u.kids i hi hl e hup.1) (nah_of_ahd hup.2)
      · exact u.other i hi hl hne e
    rw [sink_still _ _ hok]
    exact hok
  · have hst : riseF h k = h := by
      rcases Nat.eq_zero_or_pos k with rfl | hpos
      · exact riseF_stop0 h
      · refine riseF_stop h k ?_
        cases hc : ahd (rd_T38 h k) (rd_T38 h ((k - 1) / 2 : Nat)) with
        | false => rfl
        | true => exact absurd ⟨hpos, hc⟩ hup
    rw [hqk hst, hst]
    refine sink_heap h k hk ⟨fun i hi hl hne => ?_, u.kids⟩
    by_cases e : i = k
    · subst e
      unfold nah
      cases hc : ahd (rd_T38 h i) (rd_T38 h ((i - 1) / 2 : Nat)) with
      | false => rfl
      | true => exact absurd ⟨hi, hc⟩ hup
    · exact u.other i hi hl e hne

theorem heap_push (h : List S38) (d : S38) (ok : HeapOk h) : HeapOk (riseF (h ++ [d]) h.length) := by
  refine rise_heap _ _ (by simp) ⟨fun i hi hl hne => ?_, fun i hi hl e hp => ?_⟩
  · simp only [List.length_append, List.length_cons, List.length_nil] at hl
    simp only [at_]
    rw [rd_snoc_old _ _ _ (by omega), rd_snoc_old _ _ _ (by omega)]
    exact ok i hi (by omega)
  · simp only [List.length_append, List.length_cons, List.length_nil] at hl
    omega
theorem heap_take (h : List S38) (n : Nat) (hn : n ≤ h.length) (ok : HeapOk h) : HeapOk (h.take n) := by
  intro i hi hl
  have hl2 : i < n := by simp at hl; omega
  rw [rd_take _ _ _ hl2, rd_take _ _ _ (by omega)]
  exact ok i hi (by omega)
theorem rd_ext {a b : List S38} (hl : a.length = b.length) (h : ∀ j : Nat, j < a.length → rd_T38 a j = rd_T38 b j) : a = b := by
  refine List.ext_getElem hl fun j h1 h2 => ?_
  have := h j h1
  simpa [rd_T38, h1, h2] using this
theorem heap_drop (h : List S38) (k : Nat) (hk : k < h.length) (ok : HeapOk h) : HeapOk (dropF h k) := by
  unfold dropF
  have hlen : ((swp h k (h.length - 1)).take (h.length - 1)).length = h.length - 1 := by simp [swp_length]
  split
  · rename_i hlt
    have he : (swp h k (h.length - 1)).take (h.length - 1) = (h.take (h.length - 1)).set k (rd_T38 h (h.length - 1 : Nat)) := by
      refine rd_ext (by simp [swp_length]) fun j hj => ?_
      rw [hlen] at hj
      rw [rd_take _ _ _ hj, rd_swp h k _ hk (by omega), rd_set, if_neg (by omega)]
      by_cases e : j = k
      · subst e; rw [if_pos rfl, if_pos ⟨rfl, by simp; omega⟩]
      · rw [if_neg e, if_neg (by omega), rd_take _ _ _ hj]
    rw [he]
    have hl2 : (h.take (h.length - 1)).length = h.length - 1 := by simp
    exact rise_sink_heap _ k (by simp; omega) (hole_of_heap _ k (by omega) (heap_take h _ (by omega) ok) _) k (fun _ => rfl)
  · have hkl : k = h.length - 1 := by omega
    have he : (swp h k (h.length - 1)).take (h.length - 1) = h.take (h.length - 1) := by
      refine rd_ext (by simp [swp_length]) fun j hj => ?_
      rw [hlen] at hj
      rw [rd_take _ _ _ hj, rd_swp h k _ hk (by omega), if_neg (by omega), if_neg (by omega), rd_take _ _ _ hj]
    rw [he]
    exact heap_take h _ (by omega) ok
/-- The first is the least. -/
theorem heap_least (h : List S38) (ok : HeapOk h) (i : Nat) (hi : i < h.length) : nah (rd_T38 h i) (rd_T38 h (0 : Nat)) := by
  induction i using Nat.strongRecOn with
  | _ i ih =>
    rcases Nat.eq_zero_or_pos i with rfl | hp
    · exact nah_refl _
    · exact nah_trans (ok i hp hi) (ih ((i - 1) / 2) (by omega) (by omega))

/-- No two have one number. -/
def Dist (h : List S38) : Prop := ∀ i j : Nat, i < h.length → j < h.length → (rd_T38 h i).f1 = (rd_T38 h j).f1 → i = j
end Go.Proofs.Ytpfoefmcjbdeeaa
