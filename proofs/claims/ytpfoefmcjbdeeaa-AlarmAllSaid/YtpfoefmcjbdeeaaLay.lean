/-
  lay and swap: what they write.
-/
import Derived.Test.YtpfoefmcjbdeeaaMem
import Derived.RegionTactic
import Derived.Deep.RegionWith
import Derived.Deep.RegionHeld3
import Derived.Deep.RegionLaw
import Derived.Deep.QuietTactic
import Derived.BigQuiet
namespace Go.Proofs.Ytpfoefmcjbdeeaa
open Go.RowKit Go.Maps Go.Proofs.YtpfoefmcjbdeeaaW.PrintWords Go.Proofs.YtpfoefmcjbdeeaaW.PrintLast Go.Proofs.YtpfoefmcjbdeeaaW.PrintMore
open Go.Proofs.Ytpfoefmcjbdeeaa.PAlarmAll

section
variable {base : Nat} {w : World} {g : Nat} {lv : Value} {mb : Nat} {h : List S38} {D : D0} {last : Int}
theorem Al.grown (a : Al base w g lv mb h D last) {w' : World} {row : Option Nat} (hg : w.grownBy w' row) (h0 : row ≠ some g) (h1 : row ≠ some mb) (h2 : row = none ∨ row ≠ lv.ownBlock) : Al base w' g lv mb h D last :=
  ⟨a.hg, (hg.block g a.lt (fun e => h0 e.symm)).trans a.blk, a.row.kept hg (by rcases h2 with rfl | h2; · cases lv.ownBlock <;> simp
                                                                               · exact .inr (fun e => h2 e.symm)), a.hm, a.map.kept hg (fun e => h1 e.symm)⟩
theorem Al.alloc (a : Al base w g lv mb h D last) (o : Obj) : Al base (w.alloc o) g lv mb h D last := a.grown (World.grownBy_alloc w o none) (by simp) (by simp) (.inl rfl)
theorem Al.drew (a : Al base w g lv mb h D last) : Al base w.drew g lv mb h D last := ⟨a.hg, a.blk, a.row, a.hm, a.map⟩
theorem Al.drewN (a : Al base w g lv mb h D last) (n : Nat) : Al base (w.drewN n) g lv mb h D last := ⟨a.hg, a.blk, a.row, a.hm, a.map⟩
theorem Al.below (a : Al base w g lv mb h D last) {w' : World} (hb : Below w.heap.size w w') : Al base w' g lv mb h D last := a.grown (grown_of_below hb none) (by simp) (by simp) (.inl rfl)
theorem Al.mapNe (a : Al base w g lv mb h D last) {k : Nat} {cs : Array Value} {e : TypeId} {fz : Nat × Nat} (hk : w.heap[k]? = some (.cells cs e fz)) : mb ≠ k := by
  rintro rfl
  obtain ⟨es, cl, hh, _⟩ := a.map
  rw [hk] at hh; cases hh
theorem Al.rowNe {b n c : Nat} (a : Al base w g (.slice (some ⟨b, 0, none⟩) n c) mb h D last) : b ≠ g := by
  rintro rfl
  obtain ⟨cur, hh⟩ := own_block a.row
  rw [a.blk] at hh
  simp at hh
/-- An element is written. -/
theorem Al.set {b n c : Nat} (a : Al base w g (.slice (some ⟨b, 0, none⟩) n c) mb h D last) (i : Nat) (d : S38) :
    Al base ((w.setCell ⟨b, i * 2, none⟩ (.int .i64 d.f0)).setCell ⟨b, i * 2 + 1, none⟩ (.int .i64 d.f1)) g (.slice (some ⟨b, 0, none⟩) n c) mb (h.set i d) D last := by
  have hne := a.rowNe
  obtain ⟨cur, hh⟩ := own_block a.row
  have hm := a.mapNe hh
  refine ⟨a.hg, ?_, own_set a.row i d, a.hm, (a.map.setCell hm _).setCell hm _⟩
  rw [Below.heap_setCell _ _ _ _ (Ne.symm hne), Below.heap_setCell _ _ _ _ (Ne.symm hne)]
  exact a.blk
theorem Chg.set {b n c : Nat} (a : Al base w g (.slice (some ⟨b, 0, none⟩) n c) mb h D last) (j : Nat) (u : Value) (hb : base ≤ b) : Chg base w (w.setCell ⟨b, j, none⟩ u) := by
  obtain ⟨cur, hh⟩ := own_block a.row
  refine ⟨(Below.refl _ _).setCell hb _, fun k hk hf => Below.heap_setCell _ _ _ _ ?_⟩
  rintro rfl
  rw [hh] at hf
  exact hf.1 rfl
end
theorem Chg.setCell {base : Nat} {w w' : World} (x : Chg base w w') {b j : Nat} {u : Value} {cs : Array Value} {e : TypeId} {fz : Nat × Nat} (hh : w.heap[b]? = some (.cells cs e fz)) (he : e = 38 ∨ e = 50) (hb : base ≤ b) : Chg base w (w'.setCell ⟨b, j, none⟩ u) := by
  refine ⟨x.below.setCell hb _, fun k hk hf => (Below.heap_setCell _ _ _ _ ?_).trans (x.keep k hk hf)⟩
  rintro rfl
  rw [hh] at hf
  rcases he with rfl | rfl
  · exact hf.1 rfl
  · exact hf.2 rfl
theorem Chg.alloc {base : Nat} {w w' : World} (x : Chg base w w') (hb : base ≤ w'.heap.size) (o : Obj) : Chg base w (w'.alloc o) := x.trans (Chg.of_below ((Below.refl _ _).alloc (Nat.le_refl _) _) hb)
theorem Chg.drew {base : Nat} {w w' : World} (x : Chg base w w') : Chg base w w'.drew := ⟨⟨x.below.os, x.below.tape, x.below.output, x.below.size, x.below.block⟩, x.keep⟩
theorem Chg.drewN {base : Nat} {w w' : World} (x : Chg base w w') (n : Nat) : Chg base w (w'.drewN n) := ⟨⟨x.below.os, x.below.tape, x.below.output, x.below.size, x.below.block⟩, x.keep⟩

/-- The world behind a call on the alarms at g: no block but theirs has been written. -/
structure Fr (g : Nat) (lv : Value) (mb : Nat) (w w' : World) : Prop where
  os : w'.os = w.os
  tape : w'.tape = w.tape
  output : w'.output = w.output
  size : w.heap.size ≤ w'.heap.size
  block : ∀ k, k < w.heap.size → k ≠ g → some k ≠ lv.ownBlock → k ≠ mb → w'.heap[k]? = w.heap[k]?
theorem Fr.refl (g : Nat) (lv : Value) (mb : Nat) (w : World) : Fr g lv mb w w := ⟨rfl, rfl, rfl, Nat.le_refl _, fun _ _ _ _ _ => rfl⟩
theorem Fr.trans {g : Nat} {lv lv1 : Value} {mb : Nat} {a b c : World} (h : Fr g lv mb a b) (k : Fr g lv1 mb b c) (hl : ∀ j, j < a.heap.size → lv1.ownBlock = some j → lv.ownBlock = some j) : Fr g lv mb a c :=
  ⟨k.os.trans h.os, k.tape.trans h.tape, k.output.trans h.output, Nat.le_trans h.size k.size, fun i hi h1 h2 h3 =>
    (k.block i (Nat.lt_of_lt_of_le hi h.size) h1 (fun e => h2 (hl i hi e.symm).symm) h3).trans (h.block i hi h1 h2 h3)⟩
theorem Fr.then_ {g : Nat} {lv : Value} {mb : Nat} {a b c : World} (h : Fr g lv mb a b) (k : Fr g lv mb b c) : Fr g lv mb a c := h.trans k (fun _ _ h => h)
theorem Fr.grown {g : Nat} {lv : Value} {mb : Nat} {a b c : World} (h : Fr g lv mb a b) {row : Option Nat} (k : b.grownBy c row) (hr : ∀ j, row = some j → j = g ∨ some j = lv.ownBlock ∨ j = mb) : Fr g lv mb a c :=
  h.then_ ⟨k.os, k.tape, k.output, k.size, fun i hi h1 h2 h3 => k.block i hi (fun e => by rcases hr i e.symm with h | h | h <;> contradiction)⟩
theorem Fr.alloc {g : Nat} {lv : Value} {mb : Nat} {a b : World} (h : Fr g lv mb a b) (o : Obj) : Fr g lv mb a (b.alloc o) := h.grown (World.grownBy_alloc b o none) (by simp)
theorem Fr.drew {g : Nat} {lv : Value} {mb : Nat} {a b : World} (h : Fr g lv mb a b) : Fr g lv mb a b.drew := ⟨h.os, h.tape, h.output, h.size, h.block⟩
theorem Fr.drewN {g : Nat} {lv : Value} {mb : Nat} {a b : World} (h : Fr g lv mb a b) (n : Nat) : Fr g lv mb a (b.drewN n) := ⟨h.os, h.tape, h.output, h.size, h.block⟩
theorem Fr.setCell {g : Nat} {lv : Value} {mb : Nat} {a b : World} (h : Fr g lv mb a b) {p : Addr} (hp : p.block = g ∨ some p.block = lv.ownBlock ∨ p.block = mb) (u : Value) : Fr g lv mb a (b.setCell p u) :=
  ⟨h.os, h.tape, h.output, by simpa using h.size, fun k hk h1 h2 h3 => (Below.heap_setCell _ _ _ _ (fun e => by subst e; rcases hp with h | h | h <;> contradiction)).trans (h.block k hk h1 h2 h3)⟩
theorem Fr.below {g : Nat} {lv : Value} {mb : Nat} {a b c : World} (h : Fr g lv mb a b) (k : Below b.heap.size b c) : Fr g lv mb a c := h.grown (grown_of_below k none) (by simp)
theorem Fr.chg {base : Nat} {w w' : World} {g : Nat} {lv : Value} {mb : Nat} {h : List S38} {D : D0} {last : Int} (a : Al base w g lv mb h D last) (f : Fr g lv mb w w') : Chg base w w' := by
  refine ⟨⟨f.os, f.tape, f.output, f.size, fun k hk => ?_⟩, fun k hk hf => f.block k hk ?_ ?_ ?_⟩
  · have h1 := a.lt; have h2 := a.hg; have h3 := a.hm
    exact f.block k (by omega) (by omega) (fun e => by have := own_base a.row k e.symm; omega) (by omega)
  · rintro rfl; rw [a.blk] at hf; exact hf.2 rfl
  · intro e; obtain ⟨cs, hh⟩ := own_typed a.row k e.symm; rw [hh] at hf; exact hf.1 rfl
  · rintro rfl; obtain ⟨es, cl, hh, _⟩ := a.map; rw [hh] at hf; exact hf
theorem Fr.cell {g : Nat} {lv : Value} {mb : Nat} {w w' : World} (f : Fr g lv mb w w') {b j : Nat} {v : Value} (h : w.cell? ⟨b, j, none⟩ = some v) (h1 : b ≠ g) (h2 : some b ≠ lv.ownBlock) (h3 : b ≠ mb) : w'.cell? ⟨b, j, none⟩ = some v :=
  (World.cell?_of_block (f.block b (cell_lt h) h1 h2 h3)).trans h

theorem cell_new {w : World} {n i : Nat} {c : Array Value} {e : TypeId} (hs : w.heap.size = n) : (w.alloc (.cells c e)).cell? ⟨n, i, none⟩ = c[i]? := by subst hs; exact World.cell?_alloc_new _ _ _ _
theorem map_tight {w : World} {b n : Nat} {D : D0} (h : w.ownsMap Try.prog 3 (plainElem Try.prog 3) b n D) : w.ownsMap Try.prog 3 (plainElem Try.prog 3) b (size D) D := by
  obtain ⟨es, cl, h1, h2, h3, rfl⟩ := h
  exact ⟨es, cl, h1, h2, by rw [size_eq, length_read]; exact Nat.le_refl _, rfl⟩
/-- The map is written. -/
theorem Al.mapped {base : Nat} {w : World} {g : Nat} {lv : Value} {mb : Nat} {h : List S38} {D D' : D0} {last : Int} (a : Al base w g lv mb h D last) {w' : World} {n : Nat} (hm : w'.ownsMap Try.prog 3 (plainElem Try.prog 3) mb n D') (hg : w.grownBy w' (some mb)) : Al base w' g lv mb h D' last :=
  ⟨a.hg, (hg.block g a.lt (by simp; exact fun e => a.mapNe a.blk e.symm)).trans a.blk, a.row.kept hg (by
    rcases h0 : lv.ownBlock with _ | k
    · exact .inl rfl
    · refine .inr ?_
      obtain ⟨cs, hh⟩ := own_typed a.row k h0
      simp only [ne_eq, Option.some.injEq]
      exact fun e => a.mapNe hh e.symm), a.hm, map_tight hm⟩
theorem Al.mapChg {base : Nat} {w : World} {g : Nat} {lv : Value} {mb : Nat} {h : List S38} {D : D0} {last : Int} (a : Al base w g lv mb h D last) {w' : World} (hg : w.grownBy w' (some mb)) : Chg base w w' :=
  Chg.of_grown hg a.hm (by have := a.lt; have := a.hg; omega) (by obtain ⟨es, cl, hh, _⟩ := a.map; rw [hh]; exact fun h => h)

theorem key3 {a : Int} (h0 : 0 ≤ a) (h1 : a < 4611686018427387904) : keyOf Try.prog 3 (.int .i64 a) = some (.int .i64 a) :=
  keyOf_int_mk Try.underlying3 (WalkArith.wf_i64 (by omega))

set_option maxHeartbeats 400000 in
theorem lay_calls {base : Nat} {w : World} {g : Nat} {lv : Value} {mb : Nat} {h : List S38} {D : D0} {last : Int} (a : Al base w g lv mb h D last) (k : Nat) (hk : k < h.length) (d : S38) (hd0 : 0 ≤ d.f1) (hd1 : d.f1 < 4611686018427387904) (hs : size D < 1000000) (hl : h.length < 1000000) :
    Calls Try.prog 30 #[.pointer (some ⟨g, 0, none⟩), .int .i64 k, .agg #[.int .i64 d.f0, .int .i64 d.f1]] w fun e w' => e = .returned (.tuple #[]) ∧ Al base w' g lv mb (h.set k d) (D.put (.int .i64 d.f1) (.lit (.int .i64 k))) last ∧ Fr g lv mb w w' := by
  have c0 := a.c0
  have lg := a.lt
  have bg := a.hg
  obtain ⟨b, c, rfl, hb, hc, lb, e0, e1, fz⟩ := own_at a.row k hk
  have hne := a.rowNe
  have fz0 := fz (k * 2)
  have fz1 := fz (k * 2 + 1)
  clear fz
  have A1 := (a.set k d).alloc (.cells #[.int .i64 d.f0, .int .i64 d.f1] 38) |>.drew
  have X1 : Fr g (.slice (some ⟨b, 0, none⟩) h.length c) mb w ((((w.setCell ⟨b, k * 2, none⟩ (.int .i64 d.f0)).setCell ⟨b, k * 2 + 1, none⟩ (.int .i64 d.f1)).alloc (.cells #[.int .i64 d.f0, .int .i64 d.f1] 38)).drew) :=
    ((((Fr.refl _ _ _ w).setCell (.inr (.inl rfl)) _).setCell (.inr (.inl rfl)) _).alloc _).drew
  have q1 : ((((w.setCell ⟨b, k * 2, none⟩ (.int .i64 d.f0)).setCell ⟨b, k * 2 + 1, none⟩ (.int .i64 d.f1)).alloc (.cells #[.int .i64 d.f0, .int .i64 d.f1] 38)).drew).cell? ⟨w.heap.size, 1, none⟩ = some (.int .i64 d.f1) := by
    rw [World.cell?_drew, cell_new (n := w.heap.size) (by simp)]; rfl
  have QA := Aside0.mk A1
  have QX := Aside0.mk X1
  have Q1 := Aside0.mk q1
  clear A1 X1 q1 a
  go_enter Try.func30, Try.ntmps30
  go_wp2
  go_region
  go_wp2
  generalize ((((w.setCell ⟨b, k * 2, none⟩ (.int .i64 d.f0)).setCell ⟨b, k * 2 + 1, none⟩ (.int .i64 d.f1)).alloc (.cells #[.int .i64 d.f0, .int .i64 d.f1] 38)).drew) = W1 at QA QX Q1 ⊢
  clear c0 e0 e1 fz0 fz1
  have A1 := QA.out
  have c1 := A1.c1
  have q1 := Q1.out
  obtain ⟨w2, hrun, own2, gr2⟩ := (A1.drew.map).update keyed3 Try.underlying48 (by unfold maxLen; omega) (key3 hd0 hd1) (plainElem_int (H := Unit) Try.underlying3 (a := (k : Int)) (WalkArith.wf_i64 (by omega)))
  clear A1
  go_region
  go_wp2
  go_end0
  exact ⟨rfl, QA.out.drew.mapped own2 gr2, QX.out.drew.grown gr2 (fun j e => by cases e; exact .inr (.inr rfl))⟩
end Go.Proofs.Ytpfoefmcjbdeeaa
