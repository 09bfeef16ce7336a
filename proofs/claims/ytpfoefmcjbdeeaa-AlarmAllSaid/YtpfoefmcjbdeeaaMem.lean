/-
  What the alarms' memory looks like, and the small functions that only read it.
-/
import Derived.Test.YtpfoefmcjbdeeaaRef
import Derived.WalkSpells
import Derived.WalkLawsBesides
import Derived.Maps.Own
import Derived.Maps.OwnOps
import Derived.Maps.OwnSet
import Derived.Maps.Views
import Derived.OneCell
import Derived.StillTailTactics
namespace Go.Proofs.Ytpfoefmcjbdeeaa
open Go.RowKit Go.Maps Go.Proofs.YtpfoefmcjbdeeaaW.PrintWords Go.Proofs.YtpfoefmcjbdeeaaW.PrintLast Go.Proofs.YtpfoefmcjbdeeaaW.PrintMore
open Go.Proofs.Ytpfoefmcjbdeeaa.PAlarmAll

abbrev D0 := DataW Unit
theorem keyed3 : Keyed Try.prog 3 := int_keyed Try.underlying3
theorem info38 : (Try.prog.info? 38).map (fun i => (i.zero, i.size, i.bytes)) = some (some (.agg #[(.int .i64 0), (.int .i64 0)]), 2, 16) := by kernel_rfl
theorem zero3 (w : World) : (zeroValue 3).run Try.prog w = .ok (.int .i64 0) w := by kernel_rfl

/-- What the alarms' calls leave alone: blocks that are no map, and no row of alarm.Due, and no alarm.Alarms. -/
def Fixed : Option Obj → Prop
  | some (.cells _ e _) => e ≠ 38 ∧ e ≠ 50
  | some (.map _ _) => False
  | _ => True

/-- The world behind a call on alarms that lie from block base on. -/
structure Chg (base : Nat) (w w' : World) : Prop where
  below : Below base w w'
  keep : ∀ k, k < w.heap.size → Fixed w.heap[k]? → w'.heap[k]? = w.heap[k]?

theorem Chg.refl (base : Nat) (w : World) : Chg base w w := ⟨Below.refl _ _, fun _ _ _ => rfl⟩
theorem Chg.trans {base : Nat} {a b c : World} (h : Chg base a b) (k : Chg base b c) : Chg base a c :=
  ⟨h.below.trans k.below, fun i hi hf => (k.keep i (Nat.lt_of_lt_of_le hi h.below.size) (by rw [h.keep i hi hf]; exact hf)).trans (h.keep i hi hf)⟩
theorem Chg.of_below {base : Nat} {w w' : World} (h : Below w.heap.size w w') (hb : base ≤ w.heap.size) : Chg base w w' :=
  ⟨h.mono hb, fun k hk _ => h.block k hk⟩
/-- One block, no fixed one, from base on, has been written. -/
theorem Chg.of_grown {base : Nat} {w w' : World} {b : Nat} (h : w.grownBy w' (some b)) (hb : base ≤ b) (hs : base ≤ w.heap.size) (hf : ¬ Fixed w.heap[b]?) : Chg base w w' :=
  ⟨⟨h.os, h.tape, h.output, h.size, fun k hk => h.block k (by omega) (by simp; omega)⟩, fun k hk hx => h.block k hk (by rintro ⟨rfl⟩; exact hf hx)⟩

def cells2 (h : List S38) : List Value := h.flatMap fun x => [.int .i64 x.f0, .int .i64 x.f1]
theorem cells2_length (h : List S38) : (cells2 h).length = h.length * 2 := by
  induction h with
  | nil => rfl
  | cons x r ih => simp only [cells2, List.flatMap_cons, List.length_append, List.length_cons, List.length_nil] at ih ⊢; omega
theorem cells2_append (h r : List S38) : cells2 (h ++ r) = cells2 h ++ cells2 r := by simp [cells2]
theorem cells2_get : ∀ (h : List S38) (i : Nat), i < h.length → (cells2 h)[i * 2]? = some (.int .i64 (h.getD i z38).f0) ∧ (cells2 h)[i * 2 + 1]? = some (.int .i64 (h.getD i z38).f1)
  | [], i, hi => by simp at hi
  | x :: r, 0, _ => by simp [cells2]
  | x :: r, i + 1, hi => by
    have := cells2_get r i (by simpa using hi)
    have e1 : (i + 1) * 2 = i * 2 + 1 + 1 := by omega
    have e2 : cells2 (x :: r) = .int .i64 x.f0 :: .int .i64 x.f1 :: cells2 r := rfl
    rw [e1, e2]
    simpa using this
theorem cells2_set : ∀ (h : List S38) (i : Nat) (d : S38), cells2 (h.set i d) = ((cells2 h).set (i * 2) (.int .i64 d.f0)).set (i * 2 + 1) (.int .i64 d.f1)
  | [], i, d => by simp [cells2]
  | x :: r, 0, d => by simp [cells2]
  | x :: r, i + 1, d => by
    have := cells2_set r i d
    have e1 : (i + 1) * 2 = i * 2 + 1 + 1 := by omega
    have e2 : ∀ (y : S38) (l : List S38), cells2 (y :: l) = .int .i64 y.f0 :: .int .i64 y.f1 :: cells2 l := fun _ _ => rfl
    rw [e1, List.set_cons_succ, e2, e2, this]
    simp

/-- The alarms at block g: the heap h, the map D, the last number. -/
structure Al (base : Nat) (w : World) (g : Nat) (lv : Value) (mb : Nat) (h : List S38) (D : D0) (last : Int) : Prop where
  hg : base ≤ g
  blk : w.heap[g]? = some (.cells #[lv, .map (some mb), .int .i64 last] 50 (0, 0))
  row : w.ownsRow base 38 2 lv h.length (cells2 h)
  hm : base ≤ mb
  map : w.ownsMap Try.prog 3 (plainElem Try.prog 3) mb (size D) D

theorem own_val {base : Nat} {w : World} {lv : Value} {h : List S38} (r : w.ownsRow base 38 2 lv h.length (cells2 h)) : ∃ A c, lv = .slice A h.length c ∧ h.length ≤ c := by
  rcases r.2 with ⟨rfl, h0⟩ | ⟨b, cap, cur, rfl, _, _, hc, _⟩
  · exact ⟨none, 0, by rw [h0], by omega⟩
  · exact ⟨_, cap, rfl, hc⟩
theorem own_at {base : Nat} {w : World} {lv : Value} {h : List S38} (r : w.ownsRow base 38 2 lv h.length (cells2 h)) (i : Nat) (hi : i < h.length) :
    ∃ b c, lv = .slice (some ⟨b, 0, none⟩) h.length c ∧ base ≤ b ∧ h.length ≤ c ∧ b < w.heap.size ∧
      w.cell? ⟨b, i * 2, none⟩ = some (.int .i64 (rd_T38 h i).f0) ∧ w.cell? ⟨b, i * 2 + 1, none⟩ = some (.int .i64 (rd_T38 h i).f1) ∧ (∀ j, w.frozen? ⟨b, j, none⟩ = false) := by
  rcases r.2 with ⟨rfl, h0⟩ | ⟨b, cap, cur, rfl, hb, hh, hc, _, hs, ht⟩
  · omega
  · refine ⟨b, cap, rfl, hb, hc, (Array.getElem?_eq_some_iff.1 hh).1, ?_, ?_, fun j => by simp [World.frozen?, hh]⟩
    · have := (cells2_get h i hi).1
      rw [← ht, List.getElem?_take_of_lt (by omega)] at this
      simpa [World.cell?, hh, rd_T38] using this
    · have := (cells2_get h i hi).2
      rw [← ht, List.getElem?_take_of_lt (by omega)] at this
      simpa [World.cell?, hh, rd_T38] using this
theorem own_block {base : Nat} {w : World} {b n c : Nat} {h : List S38} (r : w.ownsRow base 38 2 (.slice (some ⟨b, 0, none⟩) n c) h.length (cells2 h)) :
    ∃ cur, w.heap[b]? = some (.cells cur 38 (0, 0)) := by
  rcases r.2 with ⟨h0, _⟩ | ⟨b', cap, cur, e, hb, hh, _⟩
  · cases h0
  · injection e with e1; injection e1 with e1; injection e1 with e1; subst e1; exact ⟨cur, hh⟩
theorem heap_setCell_at {w : World} {b j : Nat} {cur : Array Value} {e : TypeId} {fz : Nat × Nat} (hh : w.heap[b]? = some (.cells cur e fz)) (u : Value) : (w.setCell ⟨b, j, none⟩ u).heap[b]? = some (.cells (cur.setIfInBounds j u) e fz) := by
  have hlt := (Array.getElem?_eq_some_iff.1 hh).1
  have hv := (Array.getElem?_eq_some_iff.1 hh).2
  simp [World.setCell, hlt, Array.getElem_modify, hv]
/-- An element is written. -/
theorem own_set {base : Nat} {w : World} {b n c : Nat} {h : List S38} (r : w.ownsRow base 38 2 (.slice (some ⟨b, 0, none⟩) n c) h.length (cells2 h)) (i : Nat) (d : S38) :
    ((w.setCell ⟨b, i * 2, none⟩ (.int .i64 d.f0)).setCell ⟨b, i * 2 + 1, none⟩ (.int .i64 d.f1)).ownsRow base 38 2 (.slice (some ⟨b, 0, none⟩) n c) (h.set i d).length (cells2 (h.set i d)) := by
  refine ⟨by rw [cells2_length], ?_⟩
  rcases r.2 with ⟨h0, _⟩ | ⟨b', cap, cur, e, hb, hh, hc, hm, hs, ht⟩
  · cases h0
  · injection e with e1 e2 e3; injection e1 with e1; injection e1 with e1; subst e1 e2 e3
    refine .inr ⟨b, c, (cur.setIfInBounds (i * 2) (.int .i64 d.f0)).setIfInBounds (i * 2 + 1) (.int .i64 d.f1), by simp, hb, heap_setCell_at (heap_setCell_at hh _) _, by simpa using hc, hm, by simpa using hs, ?_⟩
    rw [cells2_set, List.length_set, ← ht]
    simp [List.take_set]
/-- Another block is written. -/
theorem own_far {base : Nat} {w : World} {v : Value} {k : Nat} {xs : List Value} (r : w.ownsRow base 38 2 v k xs) {a : Addr} (ha : v.ownBlock ≠ some a.block) (u : Value) : (w.setCell a u).ownsRow base 38 2 v k xs :=
  own_move r (fun k hk => Below.heap_setCell w a u k (fun e => ha (by rw [hk, e])))

theorem Al.c0 {base : Nat} {w : World} {g : Nat} {lv : Value} {mb : Nat} {h : List S38} {D : D0} {last : Int} (a : Al base w g lv mb h D last) : w.cell? ⟨g, 0, none⟩ = some lv := by
  simp [World.cell?, a.blk]
theorem Al.c1 {base : Nat} {w : World} {g : Nat} {lv : Value} {mb : Nat} {h : List S38} {D : D0} {last : Int} (a : Al base w g lv mb h D last) : w.cell? ⟨g, 1, none⟩ = some (.map (some mb)) := by
  simp [World.cell?, a.blk]
theorem Al.c2 {base : Nat} {w : World} {g : Nat} {lv : Value} {mb : Nat} {h : List S38} {D : D0} {last : Int} (a : Al base w g lv mb h D last) : w.cell? ⟨g, 2, none⟩ = some (.int .i64 last) := by
  simp [World.cell?, a.blk]
theorem Al.lt {base : Nat} {w : World} {g : Nat} {lv : Value} {mb : Nat} {h : List S38} {D : D0} {last : Int} (a : Al base w g lv mb h D last) : g < w.heap.size := (Array.getElem?_eq_some_iff.1 a.blk).1
theorem cell_lt {w : World} {b j : Nat} {v : Value} (h : w.cell? ⟨b, j, none⟩ = some v) : b < w.heap.size := World.block_lt_of_cell? w _ h
theorem Al.fz {base : Nat} {w : World} {g : Nat} {lv : Value} {mb : Nat} {h : List S38} {D : D0} {last : Int} (a : Al base w g lv mb h D last) (j : Nat) : w.frozen? ⟨g, j, none⟩ = false := by
  simp [World.frozen?, a.blk]

set_option maxHeartbeats 400000 in
theorem new_calls (w : World) : Calls Try.prog 4 #[] w fun e w' => ∃ g mb, e = .returned (.pointer (some ⟨g, 0, none⟩)) ∧ Al w.heap.size w' g (.slice none 0 0) mb [] (.map []) 0 ∧ Below w.heap.size w w' := by
  have hmm := @run_makeMap Try.prog
  go_enter Try.func4, Try.ntmps4
  go_wp2
  go_ret
  exact ⟨_, w.heap.size, rfl, ⟨by omega, by have := heap_alloc_new (w.alloc (.map #[] 0)) (.cells #[.slice none 0 0, .map (some w.heap.size), .int .i64 0] 50); simpa using this, ⟨rfl, .inl ⟨rfl, rfl⟩⟩, Nat.le_refl _, ((World.ownsMap_made _ _ _ _).alloc _)⟩, ((Below.refl _ _).alloc (Nat.le_refl _) _).alloc (by simp) _⟩

set_option maxHeartbeats 400000 in
theorem len_calls {base : Nat} {w : World} {g : Nat} {lv : Value} {mb : Nat} {h : List S38} {D : D0} {last : Int} (a : Al base w g lv mb h D last) :
    Calls Try.prog 12 #[.pointer (some ⟨g, 0, none⟩)] w fun e w' => e = .returned (.int .i64 h.length) ∧ w = w' := by
  have c0 := a.c0
  obtain ⟨A, c, rfl, hc⟩ := own_val a.row
  clear a
  go_enter Try.func12, Try.ntmps12
  go_wp2
  go_ret
  exact ⟨rfl, rfl⟩

set_option maxHeartbeats 400000 in
theorem next_none {base : Nat} {w : World} {g : Nat} {lv : Value} {mb : Nat} {D : D0} {last : Int} (a : Al base w g lv mb [] D last) :
    Calls Try.prog 8 #[.pointer (some ⟨g, 0, none⟩)] w fun e w' => e = .returned (.tuple #[.agg #[.int .i64 0, .int .i64 0], .bool false]) ∧ Below w.heap.size w w' := by
  have c0 := a.c0
  have lg := a.lt
  obtain ⟨A, c, rfl, hc⟩ := own_val a.row
  clear a
  simp only [List.length_nil] at c0
  go_enter Try.func8, Try.ntmps8
  go_wp2
  refine bodyPost_ret (v := .tuple #[.agg #[.int .i64 0, .int .i64 0], .bool false]) (by simp [results, Try.results8, go_sem]) rfl ⟨rfl, ?_⟩
  exact (Below.refl _ _).alloc (Nat.le_refl _) _

set_option maxHeartbeats 400000 in
theorem next_some {base : Nat} {w : World} {g : Nat} {lv : Value} {mb : Nat} {h : List S38} {D : D0} {last : Int} (a : Al base w g lv mb h D last) (hn : 0 < h.length) :
    Calls Try.prog 8 #[.pointer (some ⟨g, 0, none⟩)] w fun e w' => e = .returned (.tuple #[.agg #[.int .i64 (rd_T38 h 0).f0, .int .i64 (rd_T38 h 0).f1], .bool true]) ∧ Below w.heap.size w w' := by
  have c0 := a.c0
  have lg := a.lt
  obtain ⟨b, c, rfl, _, hc, lb, e0, e1, _⟩ := own_at a.row 0 hn
  simp only [Nat.zero_mul, Nat.zero_add, Int.natCast_zero] at e0 e1
  have hne : ((h.length : Int) == 0) = false := by simp; rintro rfl; simp at hn
  clear a
  go_enter Try.func8, Try.ntmps8
  go_wp2
  refine bodyPost_ret (v := .tuple #[.agg #[.int .i64 (rd_T38 h 0).f0, .int .i64 (rd_T38 h 0).f1], .bool true]) (by simp [results, Try.results8, go_sem]) rfl ⟨rfl, ?_⟩
  exact (Below.refl _ _).alloc (Nat.le_refl _) _
end Go.Proofs.Ytpfoefmcjbdeeaa
