/-
  The law's alive: three that are set, one that is cancelled.
-/
import Derived.Test.YtpfoefmcjbdeeaaStep
import Derived.Test.YtpfoefmcjbdeeaaCheck
namespace Go.Proofs.Ytpfoefmcjbdeeaa
open Go.RowKit Go.Maps Go.Proofs.YtpfoefmcjbdeeaaW.PrintWords Go.Proofs.YtpfoefmcjbdeeaaW.PrintLast Go.Proofs.YtpfoefmcjbdeeaaW.PrintMore
open Go.Proofs.Ytpfoefmcjbdeeaa.PAlarmAll

theorem pos_nil : Pos [] (.map [] : D0) := ⟨rfl, by simp, fun j hj => by simp at hj, fun j hj => by simp at hj, fun i hi => by simp [has] at hi⟩
theorem inv_nil : Inv [] 0 0 := ⟨fun k _ hk => by simp at hk, fun i j hi => by simp at hi, fun x hx => by simp at hx, by omega, by omega, by simp⟩
theorem new_ax (w : World) : Calls Try.prog 4 #[] w fun e w' => ∃ g mb, e = .returned (.pointer (some ⟨g, 0, none⟩)) ∧ Ax w.heap.size w' g (.slice none 0 0) mb [] 0 ∧ Below w.heap.size w w' :=
  (new_calls w).mono fun e w' h => by
    obtain ⟨g, mb, h1, h2, h3⟩ := h
    exact ⟨g, mb, h1, ⟨_, h2, pos_nil⟩, h3⟩
section
variable {base : Nat} {w : World} {g : Nat} {lv : Value} {mb : Nat} {h : List S38} {last : Int} {n : Nat}
theorem set_inv (a : Ax base w g lv mb h last) (v : Inv h last n) (hn : n ≤ 300) (at_ : Int) (hat : 0 ≤ at_ ∧ at_ ≤ 1099511627776) (last' : Int) (hl' : last' = last + 1) (L : List S38) (hL : srt h = L) :
    Calls Try.prog 14 #[.pointer (some ⟨g, 0, none⟩), .int .i64 at_] w fun e w' => e = .returned (.tuple #[.int .i64 last', .int .i64 0]) ∧
      ∃ h' lv', srt h' = putD L ⟨at_, last'⟩ ∧ Inv h' last' (n + 1) ∧ Ax base w' g lv' mb h' last' ∧ Chg base w w' := by
  subst hl' hL
  have hh : h.length < 4096 := by have := v.len; omega
  have hl0 := v.l0
  have hln := v.ln
  have hne : ∀ y ∈ h, y.f1 ≠ last + 1 := fun y hy => by have := v.ids y hy; omega
  have d2 : Dist (riseF (h ++ [⟨at_, last + 1⟩]) h.length) := dist_rise _ _ (by simp) (dist_push h _ v.dist hne)
  refine (set_calls a at_ hat.1 hat.2 hl0 (by omega) hh (fun j hj => v.ids _ (mem_rd.2 ⟨j, hj, rfl⟩))).mono fun e w' hx => ?_
  obtain ⟨h1, lv2, h2, h3, _⟩ := hx
  refine ⟨h1, _, lv2, srt_push h _ v.dist d2 (fun j hj => hne _ (mem_rd.2 ⟨j, hj, rfl⟩)), ⟨heap_push h _ v.ok, d2, fun x hx2 => ?_, by omega, by omega, by rw [riseF_length]; simp; have := v.len; omega⟩, h2, a.chg h3⟩
  rw [mem_riseF _ _ _ (by simp), List.mem_append, List.mem_singleton] at hx2
  rcases hx2 with h1 | rfl
  · have := v.ids x h1; omega
  · exact Int.le_refl _
theorem cancel_inv (a : Ax base w g lv mb h last) (v : Inv h last n) (L : List S38) (hL : srt h = L) (k : Nat) (hk : k < L.length) (id : Int) (hid : (rd_T38 L k).f1 = id) :
    Calls Try.prog 15 #[.pointer (some ⟨g, 0, none⟩), .int .i64 id] w fun e w' => e = .returned (.bool true) ∧
      ∃ h' lv', srt h' = outD L k ∧ Inv h' last n ∧ Ax base w' g lv' mb h' last ∧ Chg base w w' := by
  subst hL hid
  obtain ⟨j, hj, ej⟩ := yes_in k hk
  have d2 := dist_drop h j hj v.dist
  have hc := cancel_some a j hj
  rw [ej] at hc
  refine hc.mono fun e w' hx => ?_
  obtain ⟨h1, lv2, h2, h3, _⟩ := hx
  exact ⟨h1, _, lv2, srt_drop h j hj v.dist d2 k hk ej.symm, ⟨heap_drop h j hj v.ok, d2, fun x hx2 => v.ids x ((mem_dropF h j hj v.dist x).1 hx2).1, v.l0, v.ln, by rw [dropF_length]; have := v.len; omega⟩, h2, a.chg h3⟩
theorem take_inv (a : Ax base w g lv mb h last) (v : Inv h last n) (L : List S38) (hL : srt h = L) (now : Int) (l : List S38) (hl : l = L.takeWhile fun x => decide (x.f0 ≤ now)) (r : List S38) (hr : r = L.dropWhile fun x => decide (x.f0 ≤ now)) :
    Calls Try.prog 16 #[.pointer (some ⟨g, 0, none⟩), .int .i64 now] w fun e w' => ∃ u, e = .returned u ∧ w'.ownsRow w.heap.size 38 2 u l.length (cells2 l) ∧
      ∃ h' lv', srt h' = r ∧ Inv h' last n ∧ Ax base w' g lv' mb h' last ∧ Chg base w w' := by
  subst hL
  obtain ⟨t1, t2, t3, t4⟩ := take_srt now h v.dist v.ok
  refine (take_calls a now).mono fun e w' hx => ?_
  obtain ⟨u, h1, h2, lv2, h3, h4, _⟩ := hx
  rw [t1, ← hl] at h2
  refine ⟨u, h1, h2, _, lv2, t2.trans hr.symm, ⟨t3, t4, fun x hx2 => ?_, v.l0, v.ln, ?_⟩, h3, a.chg h4⟩
  · rw [← mem_srt, t2] at hx2
    exact v.ids x ((mem_srt h x).1 ((List.dropWhile_sublist _).subset hx2))
  · rw [← srt_length, t2]
    have := (List.dropWhile_sublist (l := srt h) fun x => decide (x.f0 ≤ now)).length_le
    rw [srt_length] at this
    have := v.len
    omega
theorem len_ax (a : Ax base w g lv mb h last) : Calls Try.prog 12 #[.pointer (some ⟨g, 0, none⟩)] w fun e w' => e = .returned (.int .i64 h.length) ∧ w = w' := by
  obtain ⟨D, a, _⟩ := a
  exact len_calls a
end
theorem two_reads {w : World} {b : Nat} {z : Nat × Nat} (hh : w.heap[b]? = some (.cells #[.int .i64 3, .int .i64 2, .int .i64 5, .int .i64 3] 46 z)) : Kd.C k46 w (some ⟨b, 0, none⟩) 2 [⟨3, 2⟩, ⟨5, 3⟩] := by
  refine ⟨rfl, by omega, fun _ => ⟨_, rfl, fun j p hj => ?_⟩⟩
  have e2 : ∀ k, (⟨b, 0, none⟩ : Addr).add k = ⟨b, k, none⟩ := fun k => by simp [Addr.add]; exact fun e => e.symm
  have sz : k46.sz = 2 := rfl
  have hc : ∀ k, w.cell? ⟨b, k, none⟩ = (#[.int .i64 3, .int .i64 2, .int .i64 5, .int .i64 3] : Array Value)[k]? := fun k => by simp [World.cell?, hh]
  match j, hj with
  | 0, hj =>
    simp only [List.getElem?_cons_zero, Option.some.injEq] at hj
    subst hj
    refine ⟨_, rfl, k46_mk w _, fun i u hi => ?_⟩
    rw [e2, sz, hc]
    match i, hi with
    | 0, hi => simpa using hi
    | 1, hi => simpa using hi
  | 1, hj =>
    simp only [List.getElem?_cons_succ, List.getElem?_cons_zero, Option.some.injEq] at hj
    subst hj
    refine ⟨_, rfl, k46_mk w _, fun i u hi => ?_⟩
    rw [e2, sz, hc]
    match i, hi with
    | 0, hi => simpa using hi
    | 1, hi => simpa using hi

set_option maxRecDepth 100000 in
set_option maxHeartbeats 4000000 in
theorem alive_calls (w : World) : Calls Try.prog 5 #[] w fun e w' => e = .returned (.bool true) ∧ Below w.heap.size w w' := by
  go_enter Try.func5, Try.ntmps5
  go_wp2_with fail
  refine (new_ax w).mono ?_
  rintro e w1 ⟨g, mb, rfl, ha, hb⟩
  have QA1 := Aside0.mk ha
  have QX1 := Aside0.mk (Chg.of_below hb (Nat.le_refl _))
  clear ha hb
  go_wp2_with fail
  refine (set_inv QA1.out inv_nil (by omega) 5 (by omega) 1 (by omega) [] srt_nil).mono ?_
  rintro e w2 ⟨rfl, h2, lv2, hs, hv, ha, hx⟩
  have QA2 := Aside0.mk ha
  have QX2 := Aside0.mk (QX1.out.trans hx)
  have QV2 := Aside0.mk hv
  have QS2 := Aside0.mk (show srt h2 = [⟨5, 1⟩] from hs)
  clear ha hx hv hs QA1 QX1
  go_wp2_with fail
  refine (set_inv QA2.out QV2.out (by omega) 3 (by omega) 2 (by omega) _ QS2.out).mono ?_
  rintro e w3 ⟨rfl, h3, lv3, hs, hv, ha, hx⟩
  have QA3 := Aside0.mk ha
  have QX3 := Aside0.mk (QX2.out.trans hx)
  have QV3 := Aside0.mk hv
  have QS3 := Aside0.mk (show srt h3 = [⟨3, 2⟩, ⟨5, 1⟩] from hs.trans (by simp [putD, ahd]))
  clear ha hx hv hs QA2 QX2 QV2 QS2
  go_wp2_with fail
  refine (set_inv QA3.out QV3.out (by omega) 5 (by omega) 3 (by omega) _ QS3.out).mono ?_
  rintro e w4 ⟨rfl, h4, lv4, hs, hv, ha, hx⟩
  have QA4 := Aside0.mk ha
  have QX4 := Aside0.mk (QX3.out.trans hx)
  have QV4 := Aside0.mk hv
  have QS4 := Aside0.mk (show srt h4 = [⟨3, 2⟩, ⟨5, 1⟩, ⟨5, 3⟩] from hs.trans (by simp [putD, ahd]))
  clear ha hx hv hs QA3 QX3 QV3 QS3
  go_wp2_with fail
  refine (set_wrong (w := w4) (g := g) (-1) (by omega)).mono ?_
  rintro e w5 ⟨rfl, hb⟩
  have QA5 := Aside0.mk (QA4.out.below hb)
  have QX5 := Aside0.mk (QX4.out.trans (Chg.of_below hb QA4.out.base_le))
  clear hb QA4 QX4
  go_wp2_with fail
  refine (cancel_inv QA5.out QV4.out _ QS4.out 1 (by decide) 1 (by rfl)).mono ?_
  rintro e w6 ⟨rfl, h6, lv6, hs, hv, ha, hx⟩
  have QA6 := Aside0.mk ha
  have QX6 := Aside0.mk (QX5.out.trans hx)
  have QV6 := Aside0.mk hv
  have QS6 := Aside0.mk (show srt h6 = [⟨3, 2⟩, ⟨5, 3⟩] from hs)
  clear ha hx hv hs QA5 QX5 QV4 QS4
  go_wp2_with fail
  refine (take_inv QA6.out QV6.out _ QS6.out 9 [⟨3, 2⟩, ⟨5, 3⟩] (by simp) [] (by simp)).mono ?_
  rintro e w7 ⟨u, rfl, hr, h7, lv7, hs, hv, ha, hx⟩
  have QA7 := Aside0.mk ha
  have QX7 := Aside0.mk (QX6.out.trans hx)
  have QV7 := Aside0.mk hv
  have h7n : h7.length = 0 := by rw [← srt_length, hs]; rfl
  have HR7 := Aside0.mk hr
  clear ha hx hv hs hr QA6 QX6 QV6 QS6
  go_wp2_with fail
  refine (rows_calls w7 u [⟨3, 2⟩, ⟨5, 3⟩] (by decide) HR7.out).mono ?_
  rintro e w8 ⟨A8, c8, rfl, hr, hb⟩
  have QA8 := Aside0.mk (QA7.out.below hb)
  have QX8 := Aside0.mk (QX7.out.trans (Chg.of_below hb QA7.out.base_le))
  have HR8 := Aside0.mk (show R46 w8 A8 c8 [⟨3, 2⟩, ⟨5, 3⟩] from hr)
  clear hr hb QA7 QX7 HR7
  go_wp2_with fail
  have hn9 := heap_alloc_new w8 (.cells #[.int .i64 3, .int .i64 2, .int .i64 5, .int .i64 3] 46)
  have hb9 : Below w8.heap.size w8 (w8.alloc (.cells #[.int .i64 3, .int .i64 2, .int .i64 5, .int .i64 3] 46)) := below_alloc (Below.refl _ _) _
  generalize w8.alloc (.cells #[.int .i64 3, .int .i64 2, .int .i64 5, .int .i64 3] 46) = w9 at hn9 hb9 ⊢
  obtain ⟨m, hm⟩ := same_refl [⟨3, 2⟩, ⟨5, 3⟩] (by simp)
  refine (chicaneref06_Same.calls m A8 c8 [⟨3, 2⟩, ⟨5, 3⟩] (some ⟨w8.heap.size, 0, none⟩) 2 [⟨3, 2⟩, ⟨5, 3⟩] true w9 (HR8.out.below hb9).read HR8.out.cap (two_reads hn9) (Nat.le_refl _) hm).mono ?_
  rintro e w10 ⟨rfl, hd⟩
  have hb10 := hd.below
  have QA9 := QA8.out.below hb9
  have QA10 := Aside0.mk (QA9.below hb10)
  have QX10 := Aside0.mk ((QX8.out.trans (Chg.of_below hb9 QA8.out.base_le)).trans (Chg.of_below hb10 QA9.base_le))
  clear hd hb10 QA9 hb9 hn9 hm QA8 QX8 HR8
  go_wp2_with fail
  refine (len_ax QA10.out).mono ?_
  rintro e w11 ⟨rfl, hw⟩
  have QA11 := Aside0.mk (show Ax w.heap.size w11 g lv7 mb h7 3 from hw ▸ QA10.out)
  have QX11 := Aside0.mk (show Chg w.heap.size w w11 from hw ▸ QX10.out)
  rw [h7n]
  clear hw QA10 QX10 h7n
  go_wp2_with fail
  refine (check_calls QA11.out QV7.out.ok).mono ?_
  rintro e w12 ⟨rfl, hb⟩
  have QX12 := Aside0.mk (QX11.out.trans (Chg.of_below hb QA11.out.base_le))
  clear hb QA11 QX11
  go_wp2_with fail
  go_ret
  exact ⟨rfl, QX12.out.below⟩
end Go.Proofs.Ytpfoefmcjbdeeaa
