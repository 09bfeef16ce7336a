/-
  List: all, in order.
-/
import Derived.Test.YtpfoefmcjbdeeaaCheck
import Derived.Test.YtpfoefmcjbdeeaaShelf
namespace Go.Proofs.Ytpfoefmcjbdeeaa
open Go.RowKit Go.Maps Go.Proofs.YtpfoefmcjbdeeaaW.PrintWords Go.Proofs.YtpfoefmcjbdeeaaW.PrintLast Go.Proofs.YtpfoefmcjbdeeaaW.PrintMore
open Go.Proofs.Ytpfoefmcjbdeeaa.PAlarmAll
open Go.Shelf Go.Sort

set_option maxHeartbeats 1000000 in
theorem or_calls (x y : Int) (b : Nat) (w : World) (c0 : w.cell? ⟨b, 0, none⟩ = some (.int .i64 x)) (c1 : w.cell? ⟨b, 1, none⟩ = some (.int .i64 y)) :
    Calls Try.prog 26 #[.slice (some ⟨b, 0, none⟩) 2 2] w fun e w' => e = .returned (.int .i64 (if x = 0 then y else x)) ∧ w' = w := by
  by_cases hx : x = 0
  · subst hx
    by_cases hy : y = 0
    · subst hy
      go_enter Try.func26, Try.ntmps26
      go_wp2
      refine wp_loop_rounds 3 ?_
      rw [rounds_succ]
      go_wp2
      rw [rounds_succ]
      go_wp2
      rw [rounds_succ]
      go_wp2
      go_ret
      exact ⟨rfl, rfl⟩
    · have hn : (y != 0) = true := by simpa using hy
      have HY := Aside0.mk hy
      clear hy
      go_enter Try.func26, Try.ntmps26
      go_wp2
      refine wp_loop_rounds 2 ?_
      rw [rounds_succ]
      go_wp2
      rw [rounds_succ]
      go_wp2
      go_ret
      exact ⟨rfl, rfl⟩
  · have hn : (x != 0) = true := by simpa using hx
    rw [if_neg hx]
    have HY := Aside0.mk hx
    clear hx
    go_enter Try.func26, Try.ntmps26
    go_wp2
    refine wp_loop_rounds 1 ?_
    rw [rounds_succ]
    go_wp2
    go_ret
    exact ⟨rfl, rfl⟩

/-- How two stand to each other. -/
def cfD (x y : S38) : Int := if Lib.compareInt x.f0 y.f0 = 0 then Lib.compareInt x.f1 y.f1 else Lib.compareInt x.f0 y.f0

theorem compare_calls (x y : Int) (w : World) : Calls Try.prog 27 #[.int .i64 x, .int .i64 y] w fun e w' => e = .returned (.int .i64 (Lib.compareInt x y)) ∧ w' = w :=
  AnyG.cmp_Compare_int Try.cmpInt x y w

/-- The old world, with draws and with new blocks. -/
def Gr (w w' : World) : Prop := ∃ q os', w' = grow (w.drewN q) os'
theorem Gr.refl (w : World) : Gr w w := ⟨0, #[], by simp [grow]; rfl⟩
theorem Gr.alloc {w w' : World} (h : Gr w w') (o : Obj) : Gr w (w'.alloc o) := by
  obtain ⟨q, os', rfl⟩ := h
  exact ⟨q, os' ++ #[o], by rw [alloc_eq_grow, grow_grow]⟩
theorem Gr.drew {w w' : World} (h : Gr w w') : Gr w w'.drew := by
  obtain ⟨q, os', rfl⟩ := h
  exact ⟨q + 1, os', rfl⟩

set_option maxHeartbeats 1000000 in
theorem closure_calls (x y : S38) (w : World) : Calls Try.prog 25 #[.agg #[.int .i64 x.f0, .int .i64 x.f1], .agg #[.int .i64 y.f0, .int .i64 y.f1]] w fun e w' => e = .returned (.int .i64 (cfD x y)) ∧ Gr w w' := by
  have h1 := fun W => compare_calls x.f0 y.f0 W
  have h2 := fun W => compare_calls x.f1 y.f1 W
  unfold cfD
  generalize Lib.compareInt x.f0 y.f0 = r at h1 ⊢
  generalize Lib.compareInt x.f1 y.f1 = s at h2 ⊢
  have H1 := Aside0.mk h1
  have H2 := Aside0.mk h2
  clear h1 h2
  go_enter Try.func25, Try.ntmps25
  go_wp2
  have q0 : (((w.alloc (.cells #[.int .i64 x.f0, .int .i64 x.f1] 38)).alloc (.cells #[.int .i64 y.f0, .int .i64 y.f1] 38)).drew).cell? ⟨w.heap.size, 0, none⟩ = some (.int .i64 x.f0) := by simp [World.cell?_alloc_lt]
  have q1 : (((w.alloc (.cells #[.int .i64 x.f0, .int .i64 x.f1] 38)).alloc (.cells #[.int .i64 y.f0, .int .i64 y.f1] 38)).drew).cell? ⟨w.heap.size, 1, none⟩ = some (.int .i64 x.f1) := by simp [World.cell?_alloc_lt]
  have p0 : (((w.alloc (.cells #[.int .i64 x.f0, .int .i64 x.f1] 38)).alloc (.cells #[.int .i64 y.f0, .int .i64 y.f1] 38)).drew).cell? ⟨w.heap.size + 1, 0, none⟩ = some (.int .i64 y.f0) := by simp [cell_new]
  have p1 : (((w.alloc (.cells #[.int .i64 x.f0, .int .i64 x.f1] 38)).alloc (.cells #[.int .i64 y.f0, .int .i64 y.f1] 38)).drew).cell? ⟨w.heap.size + 1, 1, none⟩ = some (.int .i64 y.f1) := by simp [cell_new]
  have hw : Gr w (((w.alloc (.cells #[.int .i64 x.f0, .int .i64 x.f1] 38)).alloc (.cells #[.int .i64 y.f0, .int .i64 y.f1] 38)).drew) := (((Gr.refl w).alloc _).alloc _).drew
  refine wp_region_still_tail' 10 (by kernel_rfl) (by kernel_rfl) ?_
  intro wd hwd
  rw [hwd] at q0 q1 p0 p1 hw
  clear hwd
  have HW := Aside0.mk hw
  clear hw
  simp only [List.take_succ_cons, List.take_zero, List.drop_succ_cons, List.drop_zero]
  iterate 4 (refine wpStill_step (fun K hK => ?_); have HK := Aside0.mk hK; clear hK; go_simp; refine HK.out _ ?_; clear HK K)
  (refine wpStill_step (fun K hK => ?_); have HK := Aside0.mk hK; clear hK; go_simp; refine ⟨_, H1.out _, HK.out _ ?_⟩; clear HK K)
  iterate 4 (refine wpStill_step (fun K hK => ?_); have HK := Aside0.mk hK; clear hK; go_simp; refine HK.out _ ?_; clear HK K)
  (refine wpStill_step (fun K hK => ?_); have HK := Aside0.mk hK; clear hK; go_simp; refine ⟨_, H2.out _, HK.out _ ?_⟩; clear HK K)
  refine wpStill_nil ?_
  clear q0 q1 p0 p1
  go_wp2_with fail
  refine (or_calls r s wd.heap.size _ (by simp) (by simp)).mono ?_
  rintro e w' ⟨rfl, rfl⟩
  go_wp2_with fail
  all_goals
    go_ret
    exact ⟨rfl, HW.out.alloc _⟩

instance : Inhabited S38 := ⟨z38⟩
def encD (x : S38) : List Value := [.int .i64 x.f0, .int .i64 x.f1]
def ltD (x y : S38) : Bool := ahd x y
theorem ltOf_cfD (x y : S38) : ltOf cfD x y = ahd x y := by
  unfold ltOf cfD Lib.compareInt ahd
  by_cases h1 : x.f0 < y.f0
  · simp [h1]
  · by_cases h2 : x.f0 > y.f0
    · simp [h1, h2]
      omega
    · have e : x.f0 = y.f0 := by omega
      by_cases h3 : x.f1 < y.f1
      · simp [e, h3]
      · by_cases h4 : x.f1 > y.f1
        · simp [e, h3, h4]
        · simp [e, h3, h4]
theorem ahd_iff (x y : S38) : ahd x y = true ↔ x.f0 < y.f0 ∨ (x.f0 = y.f0 ∧ x.f1 < y.f1) := by simp [ahd]
theorem swoD : SWO (ltOf cfD) where
  irrefl x := by rw [ltOf_cfD]; simp [ahd]
  trans x y z h1 h2 := by rw [ltOf_cfD, ahd_iff] at *; omega
  ntrans x y z h1 h2 := by rw [ltOf_cfD, Bool.eq_false_iff, ne_eq, ahd_iff] at *; omega
theorem S38_ext {x y : S38} (h0 : x.f0 = y.f0) (h1 : x.f1 = y.f1) : x = y := by cases x; cases y; simp_all
theorem totD (x y : S38) (h1 : ltOf cfD x y = false) (h2 : ltOf cfD y x = false) : x = y := by
  rw [ltOf_cfD, Bool.eq_false_iff, ne_eq, ahd_iff] at *
  exact S38_ext (by omega) (by omega)
/-- The alarms in order. -/
def srt (h : List S38) : List S38 := h.mergeSort fun x y => !(ltOf cfD) y x

theorem get_toArray (h : List S38) (i : Nat) (hi : i < h.length) : h.toArray[i]! = rd_T38 h i := by
  simp [rd_T38, hi]
theorem holds_own {base : Nat} {w : World} {b n c : Nat} {h : List S38} (r : w.ownsRow base 38 2 (.slice (some ⟨b, 0, none⟩) n c) h.length (cells2 h)) : HoldsK encD 2 w b 0 h.toArray := by
  intro j hj
  simp only [size_flatK, List.size_toArray] at hj
  rw [get_flatK _ _ _ _ (by simpa using hj), get_toArray _ _ (by omega)]
  obtain ⟨b', c', e, _, _, _, e0, e1, fz⟩ := own_at r (j / 2) (by omega)
  injection e with e e2 e3; injection e with e; injection e with e; subst e
  refine ⟨?_, fz _⟩
  rw [Nat.zero_add]
  have : j % 2 = 0 ∨ j % 2 = 1 := by omega
  rcases this with h0 | h0
  · rw [h0, show j = j / 2 * 2 by omega, e0]
    simp [encD]
  · rw [h0]
    conv => lhs; rw [show j = j / 2 * 2 + 1 by omega]
    rw [e1]
    simp [encD]

theorem cells2_ext (l : List Value) (h : List S38) (hl : l.length = h.length * 2) (hc : ∀ i : Nat, i < h.length → l[i * 2]? = some (.int .i64 (rd_T38 h i).f0) ∧ l[i * 2 + 1]? = some (.int .i64 (rd_T38 h i).f1)) : l = cells2 h := by
  refine List.ext_getElem? fun q => ?_
  by_cases hq : q < h.length * 2
  · have h1 := cells2_get h (q / 2) (by omega)
    have h2 := hc (q / 2) (by omega)
    have : q % 2 = 0 ∨ q % 2 = 1 := by omega
    rcases this with h0 | h0
    · rw [show q = q / 2 * 2 by omega, h1.1, h2.1]; rfl
    · rw [show q = q / 2 * 2 + 1 by omega, h1.2, h2.2]; rfl
  · rw [List.getElem?_eq_none (by omega), List.getElem?_eq_none (by rw [cells2_length]; omega)]

/-- The row behind the sort. -/
theorem own_sorted {base : Nat} {w : World} {b n c : Nat} {h : List S38} (r : w.ownsRow base 38 2 (.slice (some ⟨b, 0, none⟩) n c) h.length (cells2 h)) (hb : b < w.heap.size) (s : List S38) (hs : s.length = h.length) (m : Nat) (os : Array Obj) :
    (sortWorldK encD 2 w b 0 m s.toArray os).ownsRow base 38 2 (.slice (some ⟨b, 0, none⟩) n c) s.length (cells2 s) := by
  have hH := holds_own r
  have hH2 : HoldsK encD 2 (sortWorldK encD 2 w b 0 m s.toArray os) b 0 s.toArray := by
    unfold sortWorldK
    refine holdsK_grow _ _ _ _ _ _ _ ?_ (holdsK_putRowK _ _ _ _ _ h.toArray _ (holdsK_ahead _ _ _ _ _ _ _ hH) (by simpa using hs))
    simp [putRowK, putRow, mapBlock, hb]
  refine ⟨by rw [cells2_length], ?_⟩
  rcases r.2 with ⟨h0, _⟩ | ⟨b', cap, cur, e, hb', hh, hc, hm, hsz, ht⟩
  · cases h0
  · injection e with e1 e2 e3; injection e1 with e1; injection e1 with e1; subst e1 e2 e3
    have hblk : (sortWorldK encD 2 w b 0 m s.toArray os).heap[b]? = some (.cells (putCells id 0 (flatK encD 2 s.toArray) cur) 38 (0, 0)) := by
      unfold sortWorldK
      rw [heap_grow_old _ _ (by simp [putRowK, putRow, mapBlock, hb])]
      simp only [putRowK, putRow, mapBlock, Go.Sort.ahead, Array.getElem?_modify, if_true, hh, Option.map_some, onCells]
    refine .inr ⟨b, c, _, by rw [hs], hb', hblk, by omega, hm, by simp [putCells, hsz], ?_⟩
    refine cells2_ext _ _ (by simp [putCells, hsz]; omega) fun i hi => ?_
    have k0 := (hH2.cell (i := i) (c := 0) (by simpa using hi) (by omega)).1
    have k1 := (hH2.cell (i := i) (c := 1) (by simpa using hi) (by omega)).1
    rw [get_toArray _ _ hi] at k0 k1
    simp only [World.cell?, hblk, Nat.zero_add, Nat.add_zero] at k0 k1
    rw [List.getElem?_take_of_lt (by omega), List.getElem?_take_of_lt (by omega)]
    exact ⟨by simpa [encD] using k0, by simpa [encD] using k1⟩
theorem below_sorted {B : Nat} {w0 w : World} {b : Nat} (h : Below B w0 w) (hb : B ≤ b) (hB : B ≤ w.heap.size) (s : Array S38) (m : Nat) (os : Array Obj) : Below B w0 (sortWorldK encD 2 w b 0 m s os) := by
  refine ⟨h.os, h.tape, h.output, ?_, fun k hk => ?_⟩
  · have := h.size
    simp [sortWorldK, putRowK, putRow, mapBlock]
    omega
  · have := h.size
    have h2 := h.block k hk
    unfold sortWorldK
    have hl : k < w.heap.size := by omega
    rw [heap_grow_old _ _ (by simp [putRowK, putRow, mapBlock, hl])]
    simp only [putRowK, putRow, mapBlock, Array.getElem?_modify, if_neg (show ¬ b = k by omega)]
    exact h2

theorem isAgg38 : ∀ w, (isAgg 38).run Try.prog w = .ok true w := Try.isAgg38
set_option maxHeartbeats 1000000 in
theorem list_calls {base : Nat} {w : World} {g : Nat} {lv : Value} {mb : Nat} {h : List S38} {last : Int} (a : Ax base w g lv mb h last) :
    Calls Try.prog 11 #[.pointer (some ⟨g, 0, none⟩)] w fun e w' => ∃ v, e = .returned v ∧ w'.ownsRow w.heap.size 38 2 v (srt h).length (cells2 (srt h)) ∧ Below w.heap.size w w' := by
  obtain ⟨D, a, p⟩ := a
  have hfew := p.few
  have c0 := a.c0
  rcases a.row.2 with ⟨hlv, h0⟩ | ⟨b, cap, cur, hlv, hb, hh, hc, hm, hs, ht⟩
  · obtain rfl : h = [] := by cases h <;> simp_all
    subst hlv
    have hcl := AnyE.slices_Clone_nil Try.cloneDue 0 0 w
    change Calls Try.prog 23 _ _ _ at hcl
    have hso := fun W => AnyF.slices_SortFunc_none { Try.sortDue with } none 0 (.func (.func 25) #[] #[]) W
    change ∀ W, Calls Try.prog 24 _ _ _ at hso
    have HC := Aside0.mk hcl
    have HS := Aside0.mk hso
    clear hcl hso a p
    go_enter Try.func11, Try.ntmps11
    go_wp2_with fail
    refine HC.out.mono ?_
    rintro e w1 ⟨rfl, rfl⟩
    go_wp2_with fail
    refine (HS.out _).mono ?_
    rintro e w2 ⟨rfl, rfl⟩
    go_wp2_with fail
    go_ret
    exact ⟨_, rfl, by rw [show srt [] = [] by simp [srt]]; exact ⟨rfl, .inl ⟨rfl, rfl⟩⟩, Below.refl _ _⟩
  · subst hlv
    have hcell : ∀ j u, (cells2 h)[j]? = some u → w.cell? ⟨b, 0 + j, none⟩ = some u := by
      intro j u hj
      have hj2 : j < h.length * 2 := by
        have := (List.getElem?_eq_some_iff.1 hj).1
        rwa [cells2_length] at this
      rw [← ht, List.getElem?_take_of_lt hj2] at hj
      simpa [World.cell?, hh] using hj
    have hone : ∀ u ∈ cells2 h, u.oneCell' = true := by
      intro u hu
      simp only [cells2, List.mem_flatMap] at hu
      obtain ⟨x, _, hx⟩ := hu
      simp at hx
      rcases hx with rfl | rfl <;> rfl
    obtain ⟨i0, hi, hz0, hz1, hz2⟩ := info_parts info38
    have hcl := AnyE.slices_Clone Try.cloneDue i0 (.agg #[.int .i64 0, .int .i64 0]) 2 16 hi hz0 hz1 hz2 (by decide) (by decide) Try.sizeOf38 b 0 h.length cap (cells2 h) w (cells2_length h) (by unfold maxLen; omega) (by omega) hcell hone
    change Calls Try.prog 23 _ _ _ at hcl
    have eg : ∀ args w, (callFunc 25 args).run Try.prog w = .ok (.enter 25 args) w := enters_of Try.func25 (by kernel_rfl) rfl
    have hlay : ∀ (b off n : Nat) (W : World), CmpLays Try.prog 25 #[] encD 2 cfD b off n W := fun _ _ _ _ _ _ _ _ x y => closure_calls x y _
    have HC := Aside0.mk hcl
    have HL := Aside0.mk hlay
    have HE := Aside0.mk eg
    clear hcl hlay eg a p hh hs ht hcell hone hi hz0 hz1 hz2 hm
    go_enter Try.func11, Try.ntmps11
    go_wp2_with fail
    refine HC.out.mono ?_
    rintro e w1 ⟨v', rfl, own1, hne, hb1⟩
    rcases own1.2 with ⟨hv, _⟩ | ⟨b', cap', cur', hv, hb', hh', _⟩
    · exact absurd hv hne
    subst hv
    have hso := AnyQ.slices_SortFunc_total Try.sortDue 2 isAgg38 Try.sizeOf38 encD (fun _ => rfl) (fun x v hv => by simp [encD] at hv; rcases hv with rfl | rfl <;> rfl) cfD swoD 25 #[] b' 0 cap' h.toArray w1 HE.out (HL.out b' 0 _ w1) (holds_own own1) (Array.getElem?_eq_some_iff.1 hh').1 (by simp; omega) totD
    change Calls Try.prog 24 _ _ _ at hso
    simp only [List.size_toArray] at hso
    have HS := Aside0.mk hso
    have HO := Aside0.mk own1
    have HB := Aside0.mk hb1
    have hlt := (Array.getElem?_eq_some_iff.1 hh').1
    clear hso own1 hb1 hne hh' c0
    go_wp2_with fail
    refine HS.out.mono ?_
    rintro e w2 ⟨rfl, n, os, hw2⟩
    have O2 := own_sorted HO.out hlt (srt h) (by simp [srt]) n os
    have B2 := below_sorted HB.out hb' HB.out.size (srt h).toArray n os
    have e2 : w2 = sortWorldK encD 2 w1 b' 0 n (srt h).toArray os := hw2
    rw [← e2] at O2 B2
    have QO := Aside0.mk O2
    have QB := Aside0.mk B2
    clear O2 B2 e2 hw2 HS HO HB
    go_wp2_with fail
    go_ret
    exact ⟨_, rfl, QO.out, QB.out⟩
end Go.Proofs.Ytpfoefmcjbdeeaa
