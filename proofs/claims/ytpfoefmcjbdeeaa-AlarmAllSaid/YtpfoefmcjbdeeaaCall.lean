/-
  What each call makes of the row in order.
-/
import Derived.Test.YtpfoefmcjbdeeaaSort
namespace Go.Proofs.Ytpfoefmcjbdeeaa
open Go.Proofs.Ytpfoefmcjbdeeaa.PAlarmAll
open Go.Sort

theorem rd_inj {h : List S38} (d : Dist h) {i j : Nat} (hi : i < h.length) (hj : j < h.length) (e : rd_T38 h i = rd_T38 h j) : i = j := d i j hi hj (by rw [e])
theorem mem_dropF (h : List S38) (k : Nat) (hk : k < h.length) (d : Dist h) (x : S38) : x ∈ dropF h k ↔ x ∈ h ∧ x ≠ rd_T38 h k := by
  have hl : ((swp h k (h.length - 1)).take (h.length - 1)).length = h.length - 1 := by simp [swp_length]
  have key : x ∈ (swp h k (h.length - 1)).take (h.length - 1) ↔ x ∈ h ∧ x ≠ rd_T38 h k := by
    rw [mem_rd, mem_rd, hl]
    constructor
    · rintro ⟨j, hj, rfl⟩
      rw [rd_take _ _ _ hj, rd_swp h k _ hk (by omega), if_neg (by omega)]
      split
      · rename_i e
        exact ⟨⟨_, by omega, rfl⟩, fun e2 => by have := rd_inj d (by omega) hk e2; omega⟩
      · rename_i e
        exact ⟨⟨j, by omega, rfl⟩, fun e2 => e (rd_inj d (by omega) hk e2)⟩
    · rintro ⟨⟨j, hj, rfl⟩, hne⟩
      have hjk : j ≠ k := by rintro rfl; exact hne rfl
      by_cases e : j = h.length - 1
      · refine ⟨k, by omega, ?_⟩
        rw [rd_take _ _ _ (by omega), rd_swp h k _ hk (by omega), if_neg (by omega), if_pos rfl, e]
      · refine ⟨j, by omega, ?_⟩
        rw [rd_take _ _ _ (by omega), rd_swp h k _ hk (by omega), if_neg e, if_neg hjk]
  unfold dropF
  split
  · rw [mem_sinkF, mem_riseF _ _ _ (by rw [hl]; assumption), key]
  · exact key

theorem dist_swp (h : List S38) (i k : Nat) (hi : i < h.length) (hk : k < h.length) (d : Dist h) : Dist (swp h i k) := by
  intro a b ha hb e
  rw [swp_length] at ha hb
  rw [rd_swp h i k hi hk, rd_swp h i k hi hk] at e
  have f : ∀ j, j < h.length → (if j = k then rd_T38 h i else if j = i then rd_T38 h k else rd_T38 h j) = rd_T38 h ((if j = k then i else if j = i then k else j : Nat)) := by
    intro j _
    split
    · rfl
    · split <;> rfl
  rw [f a ha, f b hb] at e
  have := d _ _ (by split <;> (try split) <;> omega) (by split <;> (try split) <;> omega) e
  split at this <;> split at this <;> (try split at this) <;> (try split at this) <;> omega
theorem dist_take (h : List S38) (n : Nat) (d : Dist h) : Dist (h.take n) := by
  intro a b ha hb e
  simp only [List.length_take] at ha hb
  rw [rd_take _ _ _ (by omega), rd_take _ _ _ (by omega)] at e
  exact d a b (by omega) (by omega) e
theorem dist_rise (k : Nat) : ∀ h : List S38, k < h.length → Dist h → Dist (riseF h k) := by
  induction k using Nat.strongRecOn with
  | _ k ih =>
    intro h hk d
    rw [riseF]
    split
    · split
      · exact ih _ (by omega) _ (by rw [swp_length]; omega) (dist_swp _ _ _ hk (by omega) d)
      · exact d
    · exact d
theorem dist_sink (h : List S38) (k : Nat) (d : Dist h) : Dist (sinkF h k) := by
  induction hn : h.length - k using Nat.strongRecOn generalizing h k with
  | _ n ih =>
    by_cases hc : bestF h k 2 ≠ k ∧ k < h.length
    · have h1 := bestF_ge h k 2
      have h2 := bestF_lt h k hc.2 2
      rw [sinkF_go h k hc.2 hc.1]
      exact ih _ (by rw [swp_length]; omega) _ _ (dist_swp _ _ _ hc.2 h2 d) rfl
    · rw [sinkF, dif_neg hc]; exact d
theorem dist_drop (h : List S38) (k : Nat) (hk : k < h.length) (d : Dist h) : Dist (dropF h k) := by
  have h1 := dist_take _ (h.length - 1) (dist_swp h k (h.length - 1) hk (by omega) d)
  unfold dropF
  split
  · exact dist_sink _ _ (dist_rise _ _ (by simp [swp_length]; omega) h1)
  · exact h1
theorem srt_push (h : List S38) (x : S38) (d : Dist h) (d2 : Dist (riseF (h ++ [x]) h.length)) (hn : ∀ j : Nat, j < h.length → (rd_T38 h j).f1 ≠ x.f1) :
    srt (riseF (h ++ [x]) h.length) = putD (srt h) x := by
  refine srt_is _ _ d2 (asc_putD _ _ (asc_srt h d) fun y hy e => ?_) fun y => ?_
  · rw [mem_srt, mem_rd] at hy
    obtain ⟨j, hj, rfl⟩ := hy
    exact hn j hj (by rw [e])
  · rw [mem_putD, mem_srt, mem_riseF _ _ _ (by simp), List.mem_append, List.mem_singleton]
    exact Or.comm
theorem srt_get (h : List S38) (k : Nat) (hk : k < (srt h).length) : rd_T38 (srt h) k = (srt h)[k] := by simp [rd_T38, hk]
theorem srt_nodup (h : List S38) (d : Dist h) : (srt h).Nodup := by
  refine (asc_srt h d).imp fun {x y} hxy e => ?_
  subst e
  rw [ahd_iff] at hxy
  omega
theorem srt_drop (h : List S38) (j : Nat) (hj : j < h.length) (d : Dist h) (d2 : Dist (dropF h j)) (k : Nat) (hk : k < (srt h).length) (e : rd_T38 (srt h) k = rd_T38 h j) : srt (dropF h j) = outD (srt h) k := by
  refine srt_is _ _ d2 (asc_outD _ _ (asc_srt h d)) fun x => ?_
  rw [mem_outD _ _ hk (srt_nodup h d), mem_srt, mem_dropF h j hj d, ← srt_get h k hk, e]
theorem mem_atF (h : List S38) (j : Nat) (hj : j < h.length) (a : Int) (d : Dist h) (x : S38) : x ∈ atF h j a ↔ x = ⟨a, (rd_T38 h j).f1⟩ ∨ (x ∈ h ∧ x ≠ rd_T38 h j) := by
  unfold atF
  rw [mem_rd, mem_rd]
  simp only [List.length_set]
  constructor
  · rintro ⟨i, hi, rfl⟩
    rw [rd_set]
    split
    · exact .inl rfl
    · rename_i e
      exact .inr ⟨⟨i, hi, rfl⟩, fun e2 => e ⟨(rd_inj d hi hj e2).symm, hi⟩⟩
  · rintro (rfl | ⟨⟨i, hi, rfl⟩, hne⟩)
    · exact ⟨j, hj, by rw [rd_set, if_pos ⟨rfl, hj⟩]⟩
    · exact ⟨i, hi, by rw [rd_set, if_neg]; rintro ⟨rfl, _⟩; exact hne rfl⟩
theorem srt_move (h : List S38) (j : Nat) (hj : j < h.length) (a : Int) (q : Nat) (d : Dist h) (d2 : Dist (sinkF (riseF (atF h j a) j) q)) (k : Nat) (hk : k < (srt h).length) (e : rd_T38 (srt h) k = rd_T38 h j) :
    srt (sinkF (riseF (atF h j a) j) q) = putD (outD (srt h) k) ⟨a, (rd_T38 h j).f1⟩ := by
  have hmo := fun x => mem_outD (srt h) k hk (srt_nodup h d) x
  refine srt_is _ _ d2 (asc_putD _ _ (asc_outD _ _ (asc_srt h d)) fun y hy e2 => ?_) fun y => ?_
  · obtain ⟨h1, h2⟩ := (hmo y).1 hy
    rw [← srt_get h k hk, e] at h2
    rw [mem_srt, mem_rd] at h1
    obtain ⟨i, hi, rfl⟩ := h1
    exact h2 (by rw [d i j hi hj (by rw [e2])])
  · rw [mem_putD, hmo, mem_srt, ← srt_get h k hk, e, mem_sinkF, mem_riseF _ _ _ (by rw [atF_length]; exact hj), mem_atF h j hj a d]

/-- An element of the heap stands at some place of the row in order. -/
theorem srt_place (h : List S38) (j : Nat) (hj : j < h.length) : ∃ k, k < (srt h).length ∧ rd_T38 (srt h) k = rd_T38 h j := by
  have hm : rd_T38 h j ∈ srt h := (mem_srt h _).2 (mem_rd.2 ⟨j, hj, rfl⟩)
  obtain ⟨k, hk, e⟩ := mem_rd.1 hm
  exact ⟨k, hk, e⟩
theorem dist_srt (h : List S38) (d : Dist h) : Dist (srt h) := by
  intro i j hi hj e
  obtain ⟨i', hi', ei⟩ := mem_rd.1 ((mem_srt h _).1 (mem_rd.2 ⟨i, hi, rfl⟩))
  obtain ⟨j', hj', ej⟩ := mem_rd.1 ((mem_srt h _).1 (mem_rd.2 ⟨j, hj, rfl⟩))
  rw [← ei, ← ej] at e
  have := d i' j' hi' hj' e
  subst this
  rw [ei, srt_get h i hi, srt_get h j hj] at ej
  exact (List.getElem_inj (srt_nodup h d)).1 ej

/-- The first of the heap is the first of the row. -/
theorem srt_head (h : List S38) (d : Dist h) (ok : HeapOk h) (hp : 0 < h.length) : ∃ r, srt h = rd_T38 h (0 : Nat) :: r ∧ srt (dropF h 0) = r := by
  have hne : srt h ≠ [] := by intro e; have := srt_length h; rw [e] at this; simp at this; omega
  obtain ⟨x, r, hx⟩ : ∃ x r, srt h = x :: r := by
    cases hs : srt h with
    | nil => exact absurd hs hne
    | cons x r => exact ⟨x, r, rfl⟩
  have hasc := asc_srt h d
  rw [hx] at hasc
  have hc := List.pairwise_cons.1 hasc
  have h0 : rd_T38 h (0 : Nat) ∈ srt h := (mem_srt h _).2 (mem_rd.2 ⟨0, hp, rfl⟩)
  have hxm : x ∈ h := (mem_srt h x).1 (by rw [hx]; simp)
  obtain ⟨j, hj, ej⟩ := mem_rd.1 hxm
  have hle := heap_least h ok j hj
  rw [ej] at hle
  have hx0 : x = rd_T38 h (0 : Nat) := by
    rw [hx] at h0
    rcases List.mem_cons.1 h0 with e | e
    · exact e.symm
    · have := hc.1 _ e
      unfold nah at hle
      rw [hle] at this
      cases this
  subst hx0
  refine ⟨r, hx, ?_⟩
  have dd := dist_drop h 0 hp d
  exact (srt_drop h 0 hp d dd 0 (by rw [hx]; simp) (by rw [hx]; simp [rd_T38])).trans (by rw [hx]; simp [outD])

theorem srt_nil : srt [] = [] := by simp [srt]
/-- What Take takes, and what stays, in order. -/
theorem take_srt (now : Int) (h : List S38) (d : Dist h) (ok : HeapOk h) :
    (takeF now h).1 = (srt h).takeWhile (fun x => decide (x.f0 ≤ now)) ∧ srt (takeF now h).2 = (srt h).dropWhile (fun x => decide (x.f0 ≤ now)) ∧ HeapOk (takeF now h).2 ∧ Dist (takeF now h).2 := by
  induction hn : h.length using Nat.strongRecOn generalizing h with
  | _ n ih =>
    by_cases hp : 0 < h.length
    · obtain ⟨r, hr, hd⟩ := srt_head h d ok hp
      by_cases hc : (rd_T38 h (0 : Nat)).f0 ≤ now
      · obtain ⟨i1, i2, i3, i4⟩ := ih (h.length - 1) (by omega) (dropF h 0) (dist_drop h 0 hp d) (heap_drop h 0 hp ok) (dropF_length h 0)
        rw [hd] at i1 i2
        have e := takeF_go now h ⟨hp, hc⟩
        rw [e]
        refine ⟨?_, ?_, i3, i4⟩
        · rw [hr, List.takeWhile_cons, if_pos (by simpa using hc)]
          simp only [i1]
          rfl
        · rw [hr, List.dropWhile_cons, if_pos (by simpa using hc)]
          exact i2
      · rw [takeF_stop now h (fun c => hc c.2)]
        refine ⟨?_, ?_, ok, d⟩
        · rw [hr, List.takeWhile_cons, if_neg (by simpa using hc)]
        · rw [hr, List.dropWhile_cons, if_neg (by simpa using hc)]
    · obtain rfl : h = [] := by cases h <;> simp_all
      rw [takeF_stop now [] (by simp)]
      simp [srt_nil, ok, d]
end Go.Proofs.Ytpfoefmcjbdeeaa
