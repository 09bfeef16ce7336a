/-
  swap: two elements change places.
-/
import Derived.Test.YtpfoefmcjbdeeaaLay
namespace Go.Proofs.Ytpfoefmcjbdeeaa
open Go.RowKit Go.Maps Go.Proofs.YtpfoefmcjbdeeaaW.PrintWords Go.Proofs.YtpfoefmcjbdeeaaW.PrintLast Go.Proofs.YtpfoefmcjbdeeaaW.PrintMore
open Go.Proofs.Ytpfoefmcjbdeeaa.PAlarmAll

theorem size_put_le {base : Nat} {w : World} {g : Nat} {lv : Value} {mb : Nat} {h : List S38} {D : D0} {last : Int} (a : Al base w g lv mb h D last) (k : Int) (d : D0) : size (D.put (.int .i64 k) d) ≤ size D + 1 := by
  rw [size_put (a.map.tidy keyed3)]
  split <;> omega
set_option maxHeartbeats 400000 in
theorem swap_calls {base : Nat} {w : World} {g : Nat} {lv : Value} {mb : Nat} {h : List S38} {D : D0} {last : Int} (a : Al base w g lv mb h D last) (i k : Nat) (hi : i < h.length) (hk : k < h.length)
    (hid : ∀ j : Nat, j < h.length → 0 ≤ (rd_T38 h j).f1 ∧ (rd_T38 h j).f1 < 4611686018427387904) (hs : size D < 999999) (hl : h.length < 1000000) :
    Calls Try.prog 37 #[.pointer (some ⟨g, 0, none⟩), .int .i64 i, .int .i64 k] w fun e w' => e = .returned (.tuple #[]) ∧
      Al base w' g lv mb ((h.set i (rd_T38 h k)).set k (rd_T38 h i)) ((D.put (.int .i64 (rd_T38 h k).f1) (.lit (.int .i64 i))).put (.int .i64 (rd_T38 h i).f1) (.lit (.int .i64 k))) last ∧ Fr g lv mb w w' := by
  have c0 := a.c0
  have lg := a.lt
  have bg := a.hg
  obtain ⟨b, c, rfl, hb, hc, lb, e0, e1, fz⟩ := own_at a.row k hk
  obtain ⟨b', c', e, _, _, _, f0, f1, _⟩ := own_at a.row i hi
  injection e with e' e2 e3; injection e' with e'; injection e' with e'; subst e' e3
  clear e2 fz
  have hne := a.rowNe
  obtain ⟨cur, hh⟩ := own_block a.row
  have hmb := a.mapNe hh
  have hmg := a.mapNe a.blk
  have hml := a.map.lt
  clear hh
  have hix := hid i hi
  have hky := hid k hk
  clear hid
  have QA := Aside0.mk a
  clear a
  generalize hx : rd_T38 h (i : Int) = x at *
  generalize hy : rd_T38 h (k : Int) = y at *
  have HX := Aside0.mk hx
  have HY := Aside0.mk hy
  clear hx hy
  go_enter Try.func37, Try.ntmps37
  go_wp2
  go_region
  · have QB := Aside0.mk (((QA.out.alloc (.cells #[.int .i64 x.f0, .int .i64 x.f1] 38)).alloc (.cells #[.int .i64 y.f0, .int .i64 y.f1] 38)).drew)
    have QF := Aside0.mk ((((Fr.refl g (.slice (some ⟨b, 0, none⟩) h.length c) mb w).alloc (.cells #[.int .i64 x.f0, .int .i64 x.f1] 38)).alloc (.cells #[.int .i64 y.f0, .int .i64 y.f1] 38)).drew)
    have z0 : (((w.alloc (.cells #[.int .i64 x.f0, .int .i64 x.f1] 38)).alloc (.cells #[.int .i64 y.f0, .int .i64 y.f1] 38)).drew).cell? ⟨w.heap.size, 0, none⟩ = some (.int .i64 x.f0) := by simp [World.cell?_alloc_lt, cell_new]
    have z1 : (((w.alloc (.cells #[.int .i64 x.f0, .int .i64 x.f1] 38)).alloc (.cells #[.int .i64 y.f0, .int .i64 y.f1] 38)).drew).cell? ⟨w.heap.size, 1, none⟩ = some (.int .i64 x.f1) := by simp [World.cell?_alloc_lt, cell_new]
    have y0 : (((w.alloc (.cells #[.int .i64 x.f0, .int .i64 x.f1] 38)).alloc (.cells #[.int .i64 y.f0, .int .i64 y.f1] 38)).drew).cell? ⟨w.heap.size + 1, 0, none⟩ = some (.int .i64 y.f0) := by simp [cell_new]
    have y1 : (((w.alloc (.cells #[.int .i64 x.f0, .int .i64 x.f1] 38)).alloc (.cells #[.int .i64 y.f0, .int .i64 y.f1] 38)).drew).cell? ⟨w.heap.size + 1, 1, none⟩ = some (.int .i64 y.f1) := by simp [cell_new]
    generalize ((w.alloc (.cells #[.int .i64 x.f0, .int .i64 x.f1] 38)).alloc (.cells #[.int .i64 y.f0, .int .i64 y.f1] 38)).drew = W0 at QB QF z0 z1 y0 y1 ⊢
    have Z0 := Aside0.mk z0
    have Z1 := Aside0.mk z1
    clear z0 z1
    go_wp2_with fail
    refine (lay_calls QB.out i hi y hky.1 hky.2 (by omega) hl).mono ?_
    rintro e w1 ⟨rfl, A1, F1⟩
    have z0 := F1.cell Z0.out (by omega) (by simp [Value.ownBlock]; omega) (by omega)
    have z1 := F1.cell Z1.out (by omega) (by simp [Value.ownBlock]; omega) (by omega)
    have QA1 := Aside0.mk A1
    have QF1 := Aside0.mk F1
    clear A1 F1 c0 e0 e1 f0 f1
    go_wp2_with fail
    refine (lay_calls QA1.out k (by simpa using hk) x hix.1 hix.2 (by have := size_put_le QB.out y.f1 (.lit (.int .i64 i)); omega) (by simpa using hl)).mono ?_
    rintro e w2 ⟨rfl, A2, F2⟩
    have QA2 := Aside0.mk A2
    have QF2 := Aside0.mk F2
    clear A2 F2
    go_wp2_with fail
    go_end0
    exact ⟨rfl, QA2.out, (QF.out.then_ QF1.out).then_ QF2.out⟩
  · have QB := Aside0.mk (((QA.out.alloc (.cells #[.int .i64 y.f0, .int .i64 y.f1] 38)).alloc (.cells #[.int .i64 x.f0, .int .i64 x.f1] 38)).drew)
    have QF := Aside0.mk ((((Fr.refl g (.slice (some ⟨b, 0, none⟩) h.length c) mb w).alloc (.cells #[.int .i64 y.f0, .int .i64 y.f1] 38)).alloc (.cells #[.int .i64 x.f0, .int .i64 x.f1] 38)).drew)
    have z0 : (((w.alloc (.cells #[.int .i64 y.f0, .int .i64 y.f1] 38)).alloc (.cells #[.int .i64 x.f0, .int .i64 x.f1] 38)).drew).cell? ⟨w.heap.size + 1, 0, none⟩ = some (.int .i64 x.f0) := by simp [cell_new]
    have z1 : (((w.alloc (.cells #[.int .i64 y.f0, .int .i64 y.f1] 38)).alloc (.cells #[.int .i64 x.f0, .int .i64 x.f1] 38)).drew).cell? ⟨w.heap.size + 1, 1, none⟩ = some (.int .i64 x.f1) := by simp [cell_new]
    have y0 : (((w.alloc (.cells #[.int .i64 y.f0, .int .i64 y.f1] 38)).alloc (.cells #[.int .i64 x.f0, .int .i64 x.f1] 38)).drew).cell? ⟨w.heap.size, 0, none⟩ = some (.int .i64 y.f0) := by simp [World.cell?_alloc_lt, cell_new]
    have y1 : (((w.alloc (.cells #[.int .i64 y.f0, .int .i64 y.f1] 38)).alloc (.cells #[.int .i64 x.f0, .int .i64 x.f1] 38)).drew).cell? ⟨w.heap.size, 1, none⟩ = some (.int .i64 y.f1) := by simp [World.cell?_alloc_lt, cell_new]
    generalize ((w.alloc (.cells #[.int .i64 y.f0, .int .i64 y.f1] 38)).alloc (.cells #[.int .i64 x.f0, .int .i64 x.f1] 38)).drew = W0 at QB QF z0 z1 y0 y1 ⊢
    have Z0 := Aside0.mk z0
    have Z1 := Aside0.mk z1
    clear z0 z1
    go_wp2_with fail
    refine (lay_calls QB.out i hi y hky.1 hky.2 (by omega) hl).mono ?_
    rintro e w1 ⟨rfl, A1, F1⟩
    have z0 := F1.cell Z0.out (by omega) (by simp [Value.ownBlock]; omega) (by omega)
    have z1 := F1.cell Z1.out (by omega) (by simp [Value.ownBlock]; omega) (by omega)
    have QA1 := Aside0.mk A1
    have QF1 := Aside0.mk F1
    clear A1 F1 c0 e0 e1 f0 f1
    go_wp2_with fail
    refine (lay_calls QA1.out k (by simpa using hk) x hix.1 hix.2 (by have := size_put_le QB.out y.f1 (.lit (.int .i64 i)); omega) (by simpa using hl)).mono ?_
    rintro e w2 ⟨rfl, A2, F2⟩
    have QA2 := Aside0.mk A2
    have QF2 := Aside0.mk F2
    clear A2 F2
    go_wp2_with fail
    go_end0
    exact ⟨rfl, QA2.out, (QF.out.then_ QF1.out).then_ QF2.out⟩
end Go.Proofs.Ytpfoefmcjbdeeaa
