/-
  The alarms in order: what each call makes of the row in order.
-/
import Derived.Test.YtpfoefmcjbdeeaaHeap
namespace Go.Proofs.Ytpfoefmcjbdeeaa
open Go.Proofs.Ytpfoefmcjbdeeaa.PAlarmAll
open Go.Sort

/-- In order, each ahead of all behind it. -/
def Asc (l : List S38) : Prop := l.Pairwise fun x y => ahd x y = true

theorem asc_unique : ∀ (a b : List S38), Asc a → Asc b → (∀ x, x ∈ a ↔ x ∈ b) → a = b
  | [], [], _, _, _ => rfl
  | [], y :: b, _, _, h => absurd ((h y).2 (by simp)) (by simp)
  | x :: a, [], _, _, h => absurd ((h x).1 (by simp)) (by simp)
  | x :: a, y :: b, ha, hb, h => by
    have ha' := List.pairwise_cons.1 ha
    have hb' := List.pairwise_cons.1 hb
    have irr : ∀ z, ahd z z = true → False := fun z hz => by rw [ahd_iff] at hz; omega
    have hxy : x = y := by
      have h1 : x ∈ y :: b := (h x).1 (by simp)
      have h2 : y ∈ x :: a := (h y).2 (by simp)
      rcases List.mem_cons.1 h1 with e | e
      · exact e
      · rcases List.mem_cons.1 h2 with e2 | e2
        · exact e2.symm
        · have p1 := hb'.1 x e
          have p2 := ha'.1 y e2
          rw [ahd_iff] at p1 p2
          omega
    subst hxy
    congr 1
    refine asc_unique a b ha'.2 hb'.2 fun z => ?_
    have hz := h z
    simp only [List.mem_cons] at hz
    constructor
    · intro m
      rcases hz.1 (.inr m) with e | e
      · subst e; exact (irr _ (ha'.1 _ m)).elim
      · exact e
    · intro m
      rcases hz.2 (.inr m) with e | e
      · subst e; exact (irr _ (hb'.1 _ m)).elim
      · exact e

theorem mem_srt (h : List S38) (x : S38) : x ∈ srt h ↔ x ∈ h := by unfold srt; exact List.mem_mergeSort
theorem srt_length (h : List S38) : (srt h).length = h.length := by simp [srt]
theorem dist_nodup (h : List S38) (d : Dist h) : h.Nodup := by
  refine List.pairwise_iff_getElem.2 fun i j hi hj hlt e => ?_
  have := d i j hi hj (by
    have h1 : rd_T38 h (i : Nat) = h[i] := by simp [rd_T38, hi]
    have h2 : rd_T38 h (j : Nat) = h[j] := by simp [rd_T38, hj]
    rw [h1, h2, e])
  omega
theorem asc_srt (h : List S38) (d : Dist h) : Asc (srt h) := by
  have hp : (srt h).Pairwise fun x y => (!(ltOf cfD) y x) = true := by
    refine List.pairwise_mergeSort (fun a b c h1 h2 => ?_) (fun a b => ?_) h
    · simp only [Bool.not_eq_true'] at *
      exact swoD.ntrans _ _ _ h2 h1
    · simp only [Bool.or_eq_true, Bool.not_eq_true']
      cases h1 : ltOf cfD b a with
      | false => exact .inl rfl
      | true =>
        right
        cases h2 : ltOf cfD a b with
        | false => rfl
        | true => have := swoD.trans _ _ _ h1 h2; rw [swoD.irrefl] at this; cases this
  have hn : (srt h).Nodup := by
    unfold srt
    exact (List.mergeSort_perm h _).nodup_iff.2 (dist_nodup h d)
  refine (hp.and hn).imp fun {x y} ⟨h1, h2⟩ => ?_
  simp only [Bool.not_eq_true'] at h1
  cases h3 : ahd x y with
  | true => rfl
  | false => exact absurd (totD x y (by rw [ltOf_cfD]; exact h3) h1) h2
theorem srt_is (h l : List S38) (d : Dist h) (hl : Asc l) (hm : ∀ x, x ∈ l ↔ x ∈ h) : srt h = l :=
  asc_unique _ _ (asc_srt h d) hl fun x => by rw [mem_srt, hm]
theorem srt_congr (h g : List S38) (dh : Dist h) (dg : Dist g) (hm : ∀ x, x ∈ h ↔ x ∈ g) : srt h = srt g :=
  srt_is h _ dh (asc_srt g dg) fun x => by rw [mem_srt, hm]

/-- One more. -/
def putD (l : List S38) (d : S38) : List S38 := l.takeWhile (fun x => !ahd d x) ++ d :: l.dropWhile (fun x => !ahd d x)
theorem mem_putD (l : List S38) (d x : S38) : x ∈ putD l d ↔ x = d ∨ x ∈ l := by
  unfold putD
  have h := List.takeWhile_append_dropWhile (p := fun x => !ahd d x) (l := l)
  constructor
  · intro hx
    rcases List.mem_append.1 hx with hx | hx
    · right; rw [← h]; exact List.mem_append_left _ hx
    · rcases List.mem_cons.1 hx with hx | hx
      · exact .inl hx
      · right; rw [← h]; exact List.mem_append_right _ hx
  · rintro (rfl | hx)
    · exact List.mem_append_right _ (by simp)
    · rw [← h] at hx
      rcases List.mem_append.1 hx with hx | hx
      · exact List.mem_append_left _ hx
      · exact List.mem_append_right _ (List.mem_cons_of_mem _ hx)
theorem asc_putD (l : List S38) (d : S38) (hl : Asc l) (hn : ∀ x ∈ l, x ≠ d) : Asc (putD l d) := by
  induction l with
  | nil => simp [putD, Asc]
  | cons x r ih =>
    have h := List.pairwise_cons.1 hl
    unfold putD
    cases hc : ahd d x with
    | true =>
      simp only [List.takeWhile_cons, List.dropWhile_cons, hc, Bool.not_true, Bool.false_eq_true, if_false, List.nil_append]
      refine List.pairwise_cons.2 ⟨fun y hy => ?_, hl⟩
      rcases List.mem_cons.1 hy with rfl | hy
      · exact hc
      · have := h.1 y hy
        rw [ahd_iff] at *
        omega
    | false =>
      simp only [List.takeWhile_cons, List.dropWhile_cons, hc, Bool.not_false, if_true, List.cons_append]
      have ih' := ih h.2 (fun y hy => hn y (List.mem_cons_of_mem _ hy))
      refine List.pairwise_cons.2 ⟨fun y hy => ?_, ih'⟩
      rcases (mem_putD r d y).1 hy with rfl | hy
      · cases h3 : ahd x y with
        | true => rfl
        | false => exact absurd (totD x y (by rw [ltOf_cfD]; exact h3) (by rw [ltOf_cfD]; exact hc)) (hn x (by simp))
      · exact h.1 y hy
/-- One less. -/
def outD (l : List S38) (k : Nat) : List S38 := l.take k ++ l.drop (k + 1)
theorem asc_outD (l : List S38) (k : Nat) (hl : Asc l) : Asc (outD l k) := by
  have : (outD l k).Sublist l := by
    unfold outD
    conv => rhs; rw [← List.take_append_drop k l]
    refine List.Sublist.append (List.Sublist.refl _) ?_
    rw [← List.drop_drop]
    exact List.drop_sublist _ _
  exact List.Pairwise.sublist this hl
theorem mem_outD (l : List S38) (k : Nat) (hk : k < l.length) (hn : l.Nodup) (x : S38) : x ∈ outD l k ↔ x ∈ l ∧ x ≠ l[k] := by
  have e : l = l.take k ++ l[k] :: l.drop (k + 1) := by
    conv => lhs; rw [← List.take_append_drop k l, List.drop_eq_getElem_cons hk]
  have hn2 := hn
  rw [e] at hn2
  have h1 := List.nodup_append.1 hn2
  have h2 := List.nodup_cons.1 h1.2.1
  unfold outD
  constructor
  · intro hx
    rcases List.mem_append.1 hx with hx | hx
    · refine ⟨List.mem_of_mem_take hx, fun he => ?_⟩
      exact h1.2.2 x hx l[k] List.mem_cons_self he
    · refine ⟨List.mem_of_mem_drop hx, fun he => ?_⟩
      exact h2.1 (he ▸ hx)
  · rintro ⟨hx, hne⟩
    rw [e] at hx
    rcases List.mem_append.1 hx with hx | hx
    · exact List.mem_append_left _ hx
    · rcases List.mem_cons.1 hx with hx | hx
      · exact absurd hx hne
      · exact List.mem_append_right _ hx
end Go.Proofs.Ytpfoefmcjbdeeaa
