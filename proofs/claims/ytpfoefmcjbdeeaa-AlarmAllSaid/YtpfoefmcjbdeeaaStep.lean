/-
  One call, on the reference and on the alarms: they answer alike, and stay alike.
-/
import Derived.Test.YtpfoefmcjbdeeaaDoes
import Derived.Test.YtpfoefmcjbdeeaaSpec
namespace Go.Proofs.Ytpfoefmcjbdeeaa
open Go.RowKit Go.Maps Go.Proofs.YtpfoefmcjbdeeaaW.PrintWords Go.Proofs.YtpfoefmcjbdeeaaW.PrintLast Go.Proofs.YtpfoefmcjbdeeaaW.PrintMore
open Go.Proofs.Ytpfoefmcjbdeeaa.PAlarmAll

/-- The alarms behind n calls. -/
structure Inv (h : List S38) (last : Int) (n : Nat) : Prop where
  ok : HeapOk h
  dist : Dist h
  ids : ∀ x ∈ h, x.f1 ≤ last
  l0 : 0 ≤ last
  ln : last ≤ n
  len : h.length ≤ n
theorem Inv.up {h : List S38} {last : Int} {n : Nat} (v : Inv h last n) : Inv h last (n + 1) := ⟨v.ok, v.dist, v.ids, v.l0, by have := v.ln; omega, by have := v.len; omega⟩
/-- The reference's answer. -/
def DoAns (w : World) (e : Ending) (w' : World) (R : List S46) (last n : Int) (is : Bool) (er : Int) (T : List S46) : Prop :=
  ∃ A c A2 c2, e = .returned (.tuple #[.agg #[.slice A R.length c, .int .i64 last], .agg #[.int .i64 n, .bool is, .int .i64 er, .slice A2 T.length c2]]) ∧ R46 w' A c R ∧ R46 w' A2 c2 T ∧ Below w.heap.size w w'
/-- The reference, and the alarms, make of one call the same. -/
def Same2 (base g mb : Nat) (h : List S38) (last : Int) (n : Nat) (kind at_ id : Int) (L' : List S38) (last' xn : Int) (xis : Bool) (xe : Int) (T : List S46) : Prop :=
  (∀ (w : World) (A : Option Addr) (c : Nat), R46 w A c (m46 (srt h)) → Calls Try.prog 6 #[.agg #[.slice A (m46 (srt h)).length c, .int .i64 last], .agg #[.int .i64 kind, .int .i64 at_, .int .i64 id]] w fun e w' => DoAns w e w' (m46 L') last' xn xis xe T) ∧
  (∀ (w : World) (lv : Value), Ax base w g lv mb h last → Calls Try.prog 7 #[.pointer (some ⟨g, 0, none⟩), .agg #[.int .i64 kind, .int .i64 at_, .int .i64 id]] w fun e w' =>
    ∃ h', srt h' = L' ∧ Inv h' last' (n + 1) ∧ DsRet base w e w' g mb h' last' xn xis xe T)

theorem ans_still {w : World} {e : Ending} {w' : World} {A : Option Addr} {c : Nat} {R : List S46} {last n : Int} {is : Bool} {er : Int} (r : R46 w A c R)
    (h : e = .returned (.tuple #[.agg #[.slice A R.length c, .int .i64 last], .agg #[.int .i64 n, .bool is, .int .i64 er, .slice none 0 0]]) ∧ Below w.heap.size w w') : DoAns w e w' R last n is er [] :=
  ⟨A, c, none, 0, h.1, r.below h.2, R46.nil _ _ _, h.2⟩
theorem ans_new {w : World} {e : Ending} {w' : World} {R : List S46} {last n : Int} {is : Bool} {er : Int} (h : DoRet w e w' R last n is er (.slice none 0 0)) : DoAns w e w' R last n is er [] := by
  obtain ⟨A, c, h1, h2, h3⟩ := h
  exact ⟨A, c, none, 0, h1, h2, R46.nil _ _ _, h3⟩
theorem tw_facts (at_ : Int) (L : List S38) : ∃ k, k ≤ L.length ∧ L.take k = L.takeWhile (fun x => decide (x.f0 ≤ at_)) ∧ L.drop k = L.dropWhile (fun x => decide (x.f0 ≤ at_)) ∧
    (∀ j : Nat, j < k → (rd_T38 L j).f0 ≤ at_) ∧ (k < L.length → at_ < (rd_T38 L k).f0) := by
  induction L with
  | nil => exact ⟨0, by simp, by simp, by simp, fun j hj => by omega, fun hk => by simp at hk⟩
  | cons x r ih =>
    by_cases hx : x.f0 ≤ at_
    · obtain ⟨k, h1, h2, h3, h4, h5⟩ := ih
      refine ⟨k + 1, by simpa using h1, by simp [hx, h2], by simp [hx, h3], fun j hj => ?_, fun hk => ?_⟩
      · rcases j with _ | j
        · simpa [rd_T38] using hx
        · have := h4 j (by omega)
          simpa [rd_T38] using this
      · have := h5 (by simpa using hk)
        simpa [rd_T38] using this
    · exact ⟨0, by simp, by simp [hx], by simp [hx], fun j hj => by omega, fun _ => by simp [rd_T38]; omega⟩
theorem find_any (l : List S38) (id : Int) : (∃ k : Nat, k < l.length ∧ (rd_T38 l k).f1 = id) ∨ (∀ j : Nat, j < l.length → (rd_T38 l j).f1 ≠ id) := by
  by_cases h : ∃ k : Nat, k < l.length ∧ (rd_T38 l k).f1 = id
  · exact .inl h
  · exact .inr fun j hj e => h ⟨j, hj, e⟩
theorem find_some (l : List S38) (id : Int) (hl : l.length < 1000000) (d : Dist l) : ∃ r n, chicaneref06_Find.f n (m46 l) id = some r := by
  rcases find_any l id with ⟨k, hk, e⟩ | h
  · obtain ⟨n, h⟩ := find_at l id hl k hk e d
    exact ⟨_, n, h⟩
  · obtain ⟨n, h⟩ := find_none l id hl h
    exact ⟨_, n, h⟩
theorem dist_push (h : List S38) (x : S38) (d : Dist h) (hn : ∀ y ∈ h, y.f1 ≠ x.f1) : Dist (h ++ [x]) := by
  have rd : ∀ i : Nat, i < h.length + 1 → rd_T38 (h ++ [x]) i = if i < h.length then rd_T38 h i else x := fun i hi => by
    by_cases hc : i < h.length
    · rw [if_pos hc]; simp [rd_T38, List.getElem?_append_left hc]
    · have e : i = h.length := by omega
      rw [if_neg hc, e]; simp [rd_T38]
  intro i j hi hj e
  simp only [List.length_append, List.length_cons, List.length_nil, Nat.zero_add] at hi hj
  rw [rd i hi, rd j hj] at e
  have hm : ∀ k : Nat, k < h.length → rd_T38 h k ∈ h := fun k hk => mem_rd.2 ⟨k, hk, rfl⟩
  split at e <;> split at e
  · exact d i j (by assumption) (by assumption) e
  · exact absurd e (hn _ (hm i (by assumption)))
  · exact absurd e.symm (hn _ (hm j (by assumption)))
  · omega
theorem dist_at (h : List S38) (j : Nat) (at_ : Int) (d : Dist h) : Dist (atF h j at_) := by
  intro i k hi hk e
  rw [atF_length] at hi hk
  rw [atF_id, atF_id] at e
  exact d i k hi hk e

theorem no_in {h : List S38} (id : Int) (hno : ∀ j : Nat, j < (srt h).length → (rd_T38 (srt h) j).f1 ≠ id) : ∀ j : Nat, j < h.length → (rd_T38 h j).f1 ≠ id := fun j hj e => by
  obtain ⟨k, hk, ek⟩ := srt_place h j hj
  exact hno k hk (by rw [ek, e])
theorem yes_in {h : List S38} (k : Nat) (hk : k < (srt h).length) : ∃ j : Nat, j < h.length ∧ rd_T38 h j = rd_T38 (srt h) k := by
  have := (mem_srt h _).1 (mem_rd.2 ⟨k, hk, rfl⟩)
  exact mem_rd.1 this
section
variable {base g mb : Nat} {h : List S38} {last : Int} {n : Nat} (v : Inv h last n) (hn : n ≤ 300)
include v hn

theorem step_set_wrong (at_ id : Int) (hat : ¬ (0 ≤ at_ ∧ at_ ≤ 1099511627776)) : Same2 base g mb h last n 0 at_ id (srt h) last 0 false 1 [] := by
  have hl : (srt h).length < 1000000 := by rw [srt_length]; have := v.len; omega
  obtain ⟨r, m, hf⟩ := find_some (srt h) id hl (dist_srt h v.dist)
  exact ⟨fun w A c hr => (do_set_wrong w A c _ hr last at_ id r ⟨m, hf⟩ hat).mono fun e w' hx => ans_still hr hx,
    fun w lv a => (does_set_wrong a at_ id hat).mono fun e w' hx => ⟨h, rfl, v.up, hx⟩⟩
theorem step_set (at_ id : Int) (hat : 0 ≤ at_ ∧ at_ ≤ 1099511627776) : Same2 base g mb h last n 0 at_ id (putD (srt h) ⟨at_, last + 1⟩) (last + 1) (last + 1) false 0 [] := by
  have hl : (srt h).length < 1000000 := by rw [srt_length]; have := v.len; omega
  have hh : h.length < 4096 := by have := v.len; omega
  have hl0 := v.l0
  have hln := v.ln
  obtain ⟨r, m, hf⟩ := find_some (srt h) id hl (dist_srt h v.dist)
  obtain ⟨np, hp⟩ := put_at (srt h) ⟨at_, last + 1⟩ hl
  have hne : ∀ y ∈ h, y.f1 ≠ last + 1 := fun y hy => by have := v.ids y hy; omega
  have d2 : Dist (riseF (h ++ [⟨at_, last + 1⟩]) h.length) := dist_rise _ _ (by simp) (dist_push h _ v.dist hne)
  refine ⟨fun w A c hr => (do_set w A c _ hr last at_ id r ⟨m, hf⟩ hat (by rw [m46_length, srt_length]; exact hh) ⟨hl0, by omega⟩ _ ⟨np, hp⟩).mono fun e w' hx => ans_new hx,
    fun w lv a => (does_set a at_ id hat hl0 (by omega) hh (fun j hj => v.ids _ (mem_rd.2 ⟨j, hj, rfl⟩))).mono fun e w' hx =>
      ⟨_, srt_push h _ v.dist d2 (fun j hj => hne _ (mem_rd.2 ⟨j, hj, rfl⟩)), ⟨heap_push h _ v.ok, d2, fun x hx2 => ?_, by omega, by omega, by rw [riseF_length]; simp; have := v.len; omega⟩, hx⟩⟩
  rw [mem_riseF _ _ _ (by simp), List.mem_append, List.mem_singleton] at hx2
  rcases hx2 with h1 | rfl
  · have := v.ids x h1; omega
  · exact Int.le_refl _
theorem step_cancel_none (at_ id : Int) (hw : (Lit.int .i64 id).wf = true) (hno : ∀ j : Nat, j < (srt h).length → (rd_T38 (srt h) j).f1 ≠ id) : Same2 base g mb h last n 1 at_ id (srt h) last 0 false 0 [] := by
  have hl : (srt h).length < 1000000 := by rw [srt_length]; have := v.len; omega
  obtain ⟨m, hf⟩ := find_none (srt h) id hl hno
  exact ⟨fun w A c hr => (do_cancel_none w A c _ hr last at_ id ⟨m, hf⟩).mono fun e w' hx => ans_still hr hx,
    fun w lv a => (does_cancel_none a at_ id hw (no_in id hno)).mono fun e w' hx => ⟨h, rfl, v.up, hx⟩⟩
theorem step_cancel_some (at_ id : Int) (k : Nat) (hk : k < (srt h).length) (hid : (rd_T38 (srt h) k).f1 = id) : Same2 base g mb h last n 1 at_ id (outD (srt h) k) last 0 true 0 [] := by
  have hl : (srt h).length < 1000000 := by rw [srt_length]; have := v.len; omega
  obtain ⟨m, hf⟩ := find_at (srt h) id hl k hk hid (dist_srt h v.dist)
  obtain ⟨j, hj, ej⟩ := yes_in k hk
  have d2 := dist_drop h j hj v.dist
  refine ⟨fun w A c hr => (do_cancel_some w A c _ hr last at_ id k ⟨m, hf⟩ (Int.natCast_nonneg k) _ (without_at (srt h) hl k hk)).mono fun e w' hx => ans_new hx,
    fun w lv a => (does_cancel_some a at_ id j hj (by rw [ej, hid])).mono fun e w' hx => ⟨_, srt_drop h j hj v.dist d2 k hk ej.symm, ⟨heap_drop h j hj v.ok, d2, fun x hx2 => ?_, v.l0, by have := v.ln; omega, by rw [dropF_length]; have := v.len; omega⟩, hx⟩⟩
  exact v.ids x ((mem_dropF h j hj v.dist x).1 hx2).1
theorem step_move_none (at_ id : Int) (hw : (Lit.int .i64 id).wf = true) (hno : ∀ j : Nat, j < (srt h).length → (rd_T38 (srt h) j).f1 ≠ id) : Same2 base g mb h last n 2 at_ id (srt h) last 0 false 0 [] := by
  have hl : (srt h).length < 1000000 := by rw [srt_length]; have := v.len; omega
  obtain ⟨m, hf⟩ := find_none (srt h) id hl hno
  exact ⟨fun w A c hr => (do_move_none w A c _ hr last at_ id ⟨m, hf⟩).mono fun e w' hx => ans_still hr hx,
    fun w lv a => (does_move_none a at_ id hw (no_in id hno)).mono fun e w' hx => ⟨h, rfl, v.up, hx⟩⟩
theorem step_move_wrong (at_ id : Int) (k : Nat) (hk : k < (srt h).length) (hid : (rd_T38 (srt h) k).f1 = id) (hat : ¬ (0 ≤ at_ ∧ at_ ≤ 1099511627776)) : Same2 base g mb h last n 2 at_ id (srt h) last 0 false 0 [] := by
  have hl : (srt h).length < 1000000 := by rw [srt_length]; have := v.len; omega
  obtain ⟨m, hf⟩ := find_at (srt h) id hl k hk hid (dist_srt h v.dist)
  obtain ⟨j, hj, ej⟩ := yes_in k hk
  exact ⟨fun w A c hr => (do_move_wrong w A c _ hr last at_ id k ⟨m, hf⟩ (Int.natCast_nonneg k) hat).mono fun e w' hx => ans_still hr hx,
    fun w lv a => (does_move_wrong a at_ id j hj (by rw [ej, hid]) hat).mono fun e w' hx => ⟨h, rfl, v.up, hx⟩⟩
theorem step_move_some (at_ id : Int) (k : Nat) (hk : k < (srt h).length) (hid : (rd_T38 (srt h) k).f1 = id) (hat : 0 ≤ at_ ∧ at_ ≤ 1099511627776) : Same2 base g mb h last n 2 at_ id (putD (outD (srt h) k) ⟨at_, id⟩) last 0 true 0 [] := by
  have hl : (srt h).length < 1000000 := by rw [srt_length]; have := v.len; omega
  obtain ⟨m, hf⟩ := find_at (srt h) id hl k hk hid (dist_srt h v.dist)
  obtain ⟨j, hj, ej⟩ := yes_in k hk
  have ejd : (rd_T38 h j).f1 = id := by rw [ej, hid]
  have hol : (outD (srt h) k).length < 1000000 := by unfold outD; simp; omega
  obtain ⟨np, hp⟩ := put_at (outD (srt h) k) ⟨at_, id⟩ hol
  refine ⟨fun w A c hr => (do_move_some w A c _ hr last at_ id k ⟨m, hf⟩ (Int.natCast_nonneg k) hat _ _ (without_at (srt h) hl k hk) ⟨np, hp⟩).mono fun e w' hx => ans_new hx,
    fun w lv a => (does_move_some a at_ id j hj ejd hat).mono fun e w' hx => ?_⟩
  obtain ⟨q, hq, hqi, hx⟩ := hx
  have d2 : Dist (sinkF (riseF (atF h j at_) j) q) := dist_sink _ _ (dist_rise _ _ (by rw [atF_length]; exact hj) (dist_at h j at_ v.dist))
  refine ⟨_, (srt_move h j hj at_ q v.dist d2 k hk ej.symm).trans (by rw [ejd]), ⟨rise_sink_heap (atF h j at_) j (by rw [atF_length]; exact hj) (hole_of_heap h j hj v.ok _) q (fun e => ?_), d2, fun x hx2 => ?_, v.l0, by have := v.ln; omega, by rw [sinkF_length, riseF_length, atF_length]; have := v.len; omega⟩, hx⟩
  · rw [e, atF_id, ← ejd] at hqi
    exact v.dist q j hq hj hqi
  · rw [mem_sinkF, mem_riseF _ _ _ (by rw [atF_length]; exact hj), mem_atF h j hj at_ v.dist] at hx2
    rcases hx2 with rfl | ⟨h1, _⟩
    · exact v.ids (rd_T38 h j) (mem_rd.2 ⟨j, hj, rfl⟩)
    · exact v.ids x h1
theorem step_when_none (at_ id : Int) (hw : (Lit.int .i64 id).wf = true) (hno : ∀ j : Nat, j < (srt h).length → (rd_T38 (srt h) j).f1 ≠ id) : Same2 base g mb h last n 3 at_ id (srt h) last 0 false 0 [] := by
  have hl : (srt h).length < 1000000 := by rw [srt_length]; have := v.len; omega
  obtain ⟨m, hf⟩ := find_none (srt h) id hl hno
  exact ⟨fun w A c hr => (do_when_none w A c _ hr last at_ id ⟨m, hf⟩).mono fun e w' hx => ans_still hr hx,
    fun w lv a => (does_when_none a at_ id hw (no_in id hno)).mono fun e w' hx => ⟨h, rfl, v.up, hx⟩⟩
theorem step_when_some (at_ id : Int) (k : Nat) (hk : k < (srt h).length) (hid : (rd_T38 (srt h) k).f1 = id) : Same2 base g mb h last n 3 at_ id (srt h) last (rd_T38 (srt h) k).f0 true 0 [] := by
  have hl : (srt h).length < 1000000 := by rw [srt_length]; have := v.len; omega
  obtain ⟨m, hf⟩ := find_at (srt h) id hl k hk hid (dist_srt h v.dist)
  obtain ⟨j, hj, ej⟩ := yes_in k hk
  refine ⟨fun w A c hr => (do_when_some w A c _ hr last at_ id k ⟨m, hf⟩ (Int.natCast_nonneg k) (by rw [m46_length]; omega)).mono fun e w' hx => ?_,
    fun w lv a => (does_when_some a at_ id j hj (by rw [ej, hid])).mono fun e w' hx => ⟨h, rfl, v.up, by rw [ej] at hx; exact hx⟩⟩
  rw [rd46] at hx
  exact ans_new hx
theorem step_take (at_ id : Int) : Same2 base g mb h last n 4 at_ id ((srt h).dropWhile fun x => decide (x.f0 ≤ at_)) last 0 false 0 (m46 ((srt h).takeWhile fun x => decide (x.f0 ≤ at_))) := by
  have hl : (srt h).length < 1000000 := by rw [srt_length]; have := v.len; omega
  obtain ⟨r, m, hf⟩ := find_some (srt h) id hl (dist_srt h v.dist)
  obtain ⟨k, h1, h2, h3, h4, h5⟩ := tw_facts at_ (srt h)
  obtain ⟨t1, t2, t3, t4⟩ := take_srt at_ h v.dist v.ok
  refine ⟨fun w A c hr => (do_take w A c _ hr last at_ id r ⟨m, hf⟩ k (by rw [m46_length]; exact hl) (by rw [m46_length]; exact h1) (fun j hj => by rw [rd46]; exact h4 j hj) (fun hk => by rw [rd46]; rw [m46_length] at hk; exact h5 hk)).mono fun e w' hx => ?_,
    fun w lv a => (does_take a at_ id (by rw [t1]; exact Nat.lt_of_le_of_lt (List.takeWhile_sublist _).length_le hl)).mono fun e w' hx => ⟨_, t2, ⟨t3, t4, fun x hx2 => ?_, v.l0, by have := v.ln; omega, ?_⟩, by rw [t1] at hx; exact hx⟩⟩
  · obtain ⟨⟨A', c', e1, e2, e3⟩, e4⟩ := hx
    have m1 : List.drop k (m46 (srt h)) = m46 ((srt h).dropWhile fun x => decide (x.f0 ≤ at_)) := by rw [← h3]; unfold m46; rw [List.map_drop]
    have m2 : List.take k (m46 (srt h)) = m46 ((srt h).takeWhile fun x => decide (x.f0 ≤ at_)) := by rw [← h2]; unfold m46; rw [List.map_take]
    rw [m1, m2] at e1
    rw [m1] at e2
    rw [m2] at e4
    exact ⟨A', c', A, c, e1, e2, e4, e3⟩
  · rw [← mem_srt, t2] at hx2
    exact v.ids x ((mem_srt h x).1 ((List.dropWhile_sublist _).subset hx2))
  · rw [← srt_length, t2]
    have := (List.dropWhile_sublist (l := srt h) fun x => decide (x.f0 ≤ at_)).length_le
    rw [srt_length] at this
    have := v.len
    omega
theorem step_other (kind at_ id : Int) (h0 : kind ≠ 0) (h1 : kind ≠ 1) (h2 : kind ≠ 2) (h3 : kind ≠ 3) (h4 : kind ≠ 4) : Same2 base g mb h last n kind at_ id (srt h) last 0 false 0 [] := by
  have hl : (srt h).length < 1000000 := by rw [srt_length]; have := v.len; omega
  obtain ⟨r, m, hf⟩ := find_some (srt h) id hl (dist_srt h v.dist)
  exact ⟨fun w A c hr => (do_other w A c _ hr last at_ id r kind ⟨m, hf⟩ h0 h1 h2 h3 h4).mono fun e w' hx => ans_still hr hx,
    fun w lv a => (does_other a at_ id kind h0 h1 h2 h3 h4).mono fun e w' hx => ⟨h, rfl, v.up, hx⟩⟩
/-- Whatever the call. -/
theorem step_any (kind at_ id : Int) (hw : (Lit.int .i64 id).wf = true) : ∃ L' last' xn xis xe T, T.length < 1000000 ∧ Same2 base g mb h last n kind at_ id L' last' xn xis xe T := by
  have hl : (srt h).length < 1000000 := by rw [srt_length]; have := v.len; omega
  have ht : (m46 ((srt h).takeWhile fun x => decide (x.f0 ≤ at_))).length < 1000000 := by rw [m46_length]; exact Nat.lt_of_le_of_lt (List.takeWhile_sublist _).length_le hl
  have z : ([] : List S46).length < 1000000 := by simp
  by_cases h0 : kind = 0
  · subst h0
    by_cases hat : 0 ≤ at_ ∧ at_ ≤ 1099511627776
    · exact ⟨_, _, _, _, _, _, z, step_set v hn at_ id hat⟩
    · exact ⟨_, _, _, _, _, _, z, step_set_wrong v hn at_ id hat⟩
  · by_cases h1 : kind = 1
    · subst h1
      rcases find_any (srt h) id with ⟨k, hk, e⟩ | hno
      · exact ⟨_, _, _, _, _, _, z, step_cancel_some v hn at_ id k hk e⟩
      · exact ⟨_, _, _, _, _, _, z, step_cancel_none v hn at_ id hw hno⟩
    · by_cases h2 : kind = 2
      · subst h2
        rcases find_any (srt h) id with ⟨k, hk, e⟩ | hno
        · by_cases hat : 0 ≤ at_ ∧ at_ ≤ 1099511627776
          · exact ⟨_, _, _, _, _, _, z, step_move_some v hn at_ id k hk e hat⟩
          · exact ⟨_, _, _, _, _, _, z, step_move_wrong v hn at_ id k hk e hat⟩
        · exact ⟨_, _, _, _, _, _, z, step_move_none v hn at_ id hw hno⟩
      · by_cases h3 : kind = 3
        · subst h3
          rcases find_any (srt h) id with ⟨k, hk, e⟩ | hno
          · exact ⟨_, _, _, _, _, _, z, step_when_some v hn at_ id k hk e⟩
          · exact ⟨_, _, _, _, _, _, z, step_when_none v hn at_ id hw hno⟩
        · by_cases h4 : kind = 4
          · subst h4
            exact ⟨_, _, _, _, _, _, ht, step_take v hn at_ id⟩
          · exact ⟨_, _, _, _, _, _, z, step_other v hn kind at_ id h0 h1 h2 h3 h4⟩
end
end Go.Proofs.Ytpfoefmcjbdeeaa
