/-
  The law's does: a call on alarms, and its answer.
-/
import Derived.Test.YtpfoefmcjbdeeaaRows46
import Derived.Test.YtpfoefmcjbdeeaaTake
namespace Go.Proofs.Ytpfoefmcjbdeeaa
open Go.RowKit Go.Maps Go.Proofs.YtpfoefmcjbdeeaaW.PrintWords Go.Proofs.YtpfoefmcjbdeeaaW.PrintLast Go.Proofs.YtpfoefmcjbdeeaaW.PrintMore
open Go.Proofs.Ytpfoefmcjbdeeaa.PAlarmAll

/-- A box of no kind that rows, or alarms, are of. -/
def IsBox (w : World) (k : Nat) : Prop := ∃ cs e fz, w.heap[k]? = some (.cells cs e fz) ∧ e ≠ 38 ∧ e ≠ 50 ∧ e ≠ 46
theorem IsBox.set {w : World} {k : Nat} (x : IsBox w k) (p : Addr) (u : Value) : IsBox (w.setCell p u) k := by
  obtain ⟨cs, e, fz, h, r⟩ := x
  by_cases hp : k = p.block
  · obtain ⟨b, j, s⟩ := p
    simp only at hp
    subst hp
    have hlt := (Array.getElem?_eq_some_iff.1 h).1
    have hv := (Array.getElem?_eq_some_iff.1 h).2
    rcases s with _ | s
    · exact ⟨cs.setIfInBounds j u, e, fz, by simp [World.setCell, hlt, Array.getElem_modify, hv], r⟩
    · exact ⟨cs, e, fz, by simp [World.setCell, hlt, Array.getElem_modify, hv], r⟩
  · exact ⟨cs, e, fz, (Below.heap_setCell _ _ _ _ hp).trans h, r⟩
theorem R46.box {w : World} {A : Option Addr} {c : Nat} {xs : List S46} (r : R46 w A c xs) {p : Addr} (x : IsBox w p.block) (u : Value) : R46 (w.setCell p u) A c xs := by
  obtain ⟨cs, e, fz, h, _, _, he⟩ := x
  exact r.move fun k cur _ hk => Below.heap_setCell _ _ _ _ (by rintro rfl; rw [h] at hk; injection hk with hk; injection hk with _ hk; exact he hk)
section
variable {base : Nat} {w : World} {g : Nat} {lv : Value} {mb : Nat} {h : List S38} {last : Int}
theorem Ax.below (a : Ax base w g lv mb h last) {w' : World} (hb : Below w.heap.size w w') : Ax base w' g lv mb h last := by
  obtain ⟨D, a, p⟩ := a
  exact ⟨D, a.below hb, p⟩
theorem Ax.chg (a : Ax base w g lv mb h last) {w' : World} (f : Fr g lv mb w w') : Chg base w w' := by
  obtain ⟨D, a, _⟩ := a
  exact f.chg a
theorem Ax.base_le (a : Ax base w g lv mb h last) : base ≤ w.heap.size := by
  obtain ⟨D, a, _⟩ := a
  have := a.hg
  have := a.lt
  omega
theorem Ax.box (a : Ax base w g lv mb h last) {p : Addr} (x : IsBox w p.block) (u : Value) : Ax base (w.setCell p u) g lv mb h last := by
  obtain ⟨D, a, q⟩ := a
  obtain ⟨cs, e, fz, hh, h1, h2, _⟩ := x
  have hg : w.grownBy (w.setCell p u) (some p.block) := ⟨rfl, rfl, rfl, by simp, fun k _ hk => Below.heap_setCell _ _ _ _ (fun e => hk (by rw [e]))⟩
  refine ⟨D, a.grown hg ?_ ?_ (.inr ?_), q⟩
  · intro e3
    injection e3 with e3
    rw [e3, a.blk] at hh
    injection hh with hh; injection hh with _ hh; exact h2 hh.symm
  · intro e3
    injection e3 with e3
    exact a.mapNe hh e3.symm
  · intro e3
    obtain ⟨cs', hc⟩ := own_typed a.row p.block e3.symm
    rw [hc] at hh
    injection hh with hh; injection hh with _ hh; exact h1 hh.symm
end
theorem Chg.new {base : Nat} {w w' : World} (x : Chg base w w') {p : Addr} (hp : w.heap.size ≤ p.block) (hb : base ≤ w.heap.size) (u : Value) : Chg base w (w'.setCell p u) :=
  ⟨x.below.setCell (Nat.le_trans hb hp) _, fun k hk hf => (Below.heap_setCell _ _ _ _ (by omega)).trans (x.keep k hk hf)⟩
/-- The three boxes of does. -/
structure DsBox (w : World) (b : Nat) (kind at_ id : Int) : Prop where
  h0 : w.heap[b]? = some (.cells #[.int .i64 kind, .int .i64 at_, .int .i64 id] 30 (0, 0))
  h1 : w.heap[b + 1]? = some (.cells #[.int .i64 0, .bool false, .int .i64 0, .slice none 0 0] 33 (0, 0))
  h2 : w.heap[b + 1 + 1]? = some (.cells #[.int .i64 0, .bool false, .int .i64 0, .slice none 0 0] 33 (0, 0))
theorem DsBox.below {w w' : World} {b : Nat} {kind at_ id : Int} (x : DsBox w b kind at_ id) (h : Below w.heap.size w w') : DsBox w' b kind at_ id :=
  ⟨(h.block _ (Array.getElem?_eq_some_iff.1 x.h0).1).trans x.h0, (h.block _ (Array.getElem?_eq_some_iff.1 x.h1).1).trans x.h1, (h.block _ (Array.getElem?_eq_some_iff.1 x.h2).1).trans x.h2⟩
theorem DsBox.chg {base : Nat} {w w' : World} {b : Nat} {kind at_ id : Int} (x : DsBox w b kind at_ id) (h : Chg base w w') : DsBox w' b kind at_ id :=
  ⟨(h.keep _ (Array.getElem?_eq_some_iff.1 x.h0).1 (by rw [x.h0]; exact ⟨by decide, by decide⟩)).trans x.h0, (h.keep _ (Array.getElem?_eq_some_iff.1 x.h1).1 (by rw [x.h1]; exact ⟨by decide, by decide⟩)).trans x.h1, (h.keep _ (Array.getElem?_eq_some_iff.1 x.h2).1 (by rw [x.h2]; exact ⟨by decide, by decide⟩)).trans x.h2⟩
theorem DsBox.b1 {w : World} {b : Nat} {kind at_ id : Int} (x : DsBox w b kind at_ id) : IsBox w (b + 1) := ⟨_, _, _, x.h1, by decide, by decide, by decide⟩
theorem DsBox.b2 {w : World} {b : Nat} {kind at_ id : Int} (x : DsBox w b kind at_ id) : IsBox w (b + 1 + 1) := ⟨_, _, _, x.h2, by decide, by decide, by decide⟩
theorem three_blocks (w : World) (o0 o1 o2 : Obj) : (((w.alloc o0).alloc o1).alloc o2).heap[w.heap.size]? = some o0 ∧ (((w.alloc o0).alloc o1).alloc o2).heap[w.heap.size + 1]? = some o1 ∧ (((w.alloc o0).alloc o1).alloc o2).heap[w.heap.size + 1 + 1]? = some o2 := by
  have e1 : (w.alloc o0).heap.size = w.heap.size + 1 := by simp
  have e2 : ((w.alloc o0).alloc o1).heap.size = w.heap.size + 2 := by simp
  refine ⟨?_, ?_, ?_⟩
  · rw [heap_alloc_old _ _ (by omega), heap_alloc_old _ _ (by omega), heap_alloc_new]
  · rw [heap_alloc_old _ _ (by omega), ← e1, heap_alloc_new]
  · rw [← e2, heap_alloc_new]
/-- What does gives back: the answer, and the alarms behind it. -/
def DsRet (base : Nat) (w : World) (e : Ending) (w' : World) (g mb : Nat) (h : List S38) (last n : Int) (is : Bool) (er : Int) (T : List S46) : Prop :=
  ∃ A c lv, e = .returned (.agg #[.int .i64 n, .bool is, .int .i64 er, .slice A T.length c]) ∧ R46 w' A c T ∧ Ax base w' g lv mb h last ∧ Chg base w w'

set_option maxRecDepth 100000 in
set_option maxHeartbeats 2000000 in
theorem does_set_wrong {base : Nat} {w : World} {g : Nat} {lv : Value} {mb : Nat} {h : List S38} {last : Int} (a : Ax base w g lv mb h last) (at_ id : Int) (hat : ¬ (0 ≤ at_ ∧ at_ ≤ 1099511627776)) :
    Calls Try.prog 7 #[.pointer (some ⟨g, 0, none⟩), .agg #[.int .i64 0, .int .i64 at_, .int .i64 id]] w fun e w' => DsRet base w e w' g mb h last 0 false 1 [] := by
  have QA := Aside0.mk a
  have HBL := Aside0.mk a.base_le
  have HAT := Aside0.mk hat
  clear hat
  clear a
  go_enter Try.func7, Try.ntmps7
  go_wp2_with fail
  have QB1 := Aside0.mk (show DsBox (((w.alloc (.cells #[.int .i64 0, .int .i64 at_, .int .i64 id] 30)).alloc (.cells #[.int .i64 0, .bool false, .int .i64 0, .slice none 0 0] 33)).alloc (.cells #[.int .i64 0, .bool false, .int .i64 0, .slice none 0 0] 33)) w.heap.size 0 at_ id from ⟨(three_blocks w _ _ _).1, (three_blocks w _ _ _).2.1, (three_blocks w _ _ _).2.2⟩)
  have QW1 := Aside0.mk (show Below w.heap.size w (((w.alloc (.cells #[.int .i64 0, .int .i64 at_, .int .i64 id] 30)).alloc (.cells #[.int .i64 0, .bool false, .int .i64 0, .slice none 0 0] 33)).alloc (.cells #[.int .i64 0, .bool false, .int .i64 0, .slice none 0 0] 33)) from below_alloc (below_alloc (below_alloc (Below.refl _ _) _) _) _)
  generalize (((w.alloc (.cells #[.int .i64 0, .int .i64 at_, .int .i64 id] 30)).alloc (.cells #[.int .i64 0, .bool false, .int .i64 0, .slice none 0 0] 33)).alloc (.cells #[.int .i64 0, .bool false, .int .i64 0, .slice none 0 0] 33)) = w1 at QB1 QW1 ⊢
  have QA1 := Aside0.mk (QA.out.below QW1.out)
  have QX1 := Aside0.mk (Chg.of_below QW1.out HBL.out)
  clear QA QW1
  refine (set_wrong (w := w1) (g := g) at_ HAT.out).mono ?_
  rintro e w2 ⟨rfl, hb2⟩
  have QA2 := Aside0.mk (QA1.out.below hb2)
  have QX2 := Aside0.mk (QX1.out.trans (Chg.of_below hb2 QA1.out.base_le))
  have QB2 := Aside0.mk (QB1.out.below hb2)
  clear QA1 QX1 QB1 hb2
  have o0 := cell_of QB2.out.h0 0
  have o1 := cell_of QB2.out.h0 1
  have o2 := cell_of QB2.out.h0 2
  have r0 := cell_of QB2.out.h1 0
  have r1 := cell_of QB2.out.h1 1
  have r2 := cell_of QB2.out.h1 2
  have r3 := cell_of QB2.out.h1 3
  have s0 := cell_of QB2.out.h2 0
  have s1 := cell_of QB2.out.h2 1
  have s2 := cell_of QB2.out.h2 2
  have s3 := cell_of QB2.out.h2 3
  simp only [List.getElem?_toArray, List.getElem?_cons_zero, List.getElem?_cons_succ] at o0 o1 o2 r0 r1 r2 r3 s0 s1 s2 s3
  have fr0 := fz_of QB2.out.h1 0
  have fr1 := fz_of QB2.out.h1 1
  have fr2 := fz_of QB2.out.h1 2
  have fr3 := fz_of QB2.out.h1 3
  have fs0 := fz_of QB2.out.h2 0
  have fs1 := fz_of QB2.out.h2 1
  have fs2 := fz_of QB2.out.h2 2
  have fs3 := fz_of QB2.out.h2 3
  have HB1 := Aside0.mk QB2.out.b1
  have HB2 := Aside0.mk QB2.out.b2
  go_wp2_with fail
  refine bodyPost_ret (v := .agg #[.int .i64 0, .bool false, .int .i64 1, .slice none 0 0]) (by simp [results, Try.results7, go_sem, r0, r1, r2, r3]) rfl ⟨none, 0, lv, rfl, R46.nil _ _ _, ?_, ?_⟩
  · repeat (with_reducible first | exact QA2.out | refine Ax.box ?_ ?_ _)
    all_goals (with_reducible (repeat refine IsBox.set ?_ _ _)); (first | exact HB1.out | exact HB2.out)
  · have hbl := HBL.out
    repeat (with_reducible first | exact QX2.out | refine Chg.new ?_ (by dsimp only; omega) hbl _)

set_option maxRecDepth 100000 in
set_option maxHeartbeats 2000000 in
theorem does_set {base : Nat} {w : World} {g : Nat} {lv : Value} {mb : Nat} {h : List S38} {last : Int} (a : Ax base w g lv mb h last) (at_ id : Int) (hat : 0 ≤ at_ ∧ at_ ≤ 1099511627776) (hl0 : 0 ≤ last) (hl1 : last < 1000000000) (hlen : h.length < 4096) (hids : ∀ j : Nat, j < h.length → (rd_T38 h j).f1 ≤ last) :
    Calls Try.prog 7 #[.pointer (some ⟨g, 0, none⟩), .agg #[.int .i64 0, .int .i64 at_, .int .i64 id]] w fun e w' => DsRet base w e w' g mb (riseF (h ++ [⟨at_, last + 1⟩]) h.length) (last + 1) (last + 1) false 0 [] := by
  have QA := Aside0.mk a
  have HBL := Aside0.mk a.base_le
  have HAT := Aside0.mk hat
  have HL0 := Aside0.mk hl0
  have HL1 := Aside0.mk hl1
  have HLN := Aside0.mk hlen
  have HID := Aside0.mk hids
  clear hat hl0 hl1 hlen hids
  clear a
  go_enter Try.func7, Try.ntmps7
  go_wp2_with fail
  have QB1 := Aside0.mk (show DsBox (((w.alloc (.cells #[.int .i64 0, .int .i64 at_, .int .i64 id] 30)).alloc (.cells #[.int .i64 0, .bool false, .int .i64 0, .slice none 0 0] 33)).alloc (.cells #[.int .i64 0, .bool false, .int .i64 0, .slice none 0 0] 33)) w.heap.size 0 at_ id from ⟨(three_blocks w _ _ _).1, (three_blocks w _ _ _).2.1, (three_blocks w _ _ _).2.2⟩)
  have QW1 := Aside0.mk (show Below w.heap.size w (((w.alloc (.cells #[.int .i64 0, .int .i64 at_, .int .i64 id] 30)).alloc (.cells #[.int .i64 0, .bool false, .int .i64 0, .slice none 0 0] 33)).alloc (.cells #[.int .i64 0, .bool false, .int .i64 0, .slice none 0 0] 33)) from below_alloc (below_alloc (below_alloc (Below.refl _ _) _) _) _)
  generalize (((w.alloc (.cells #[.int .i64 0, .int .i64 at_, .int .i64 id] 30)).alloc (.cells #[.int .i64 0, .bool false, .int .i64 0, .slice none 0 0] 33)).alloc (.cells #[.int .i64 0, .bool false, .int .i64 0, .slice none 0 0] 33)) = w1 at QB1 QW1 ⊢
  have QA1 := Aside0.mk (QA.out.below QW1.out)
  have QX1 := Aside0.mk (Chg.of_below QW1.out HBL.out)
  clear QA QW1
  refine (set_calls QA1.out at_ HAT.out.1 HAT.out.2 HL0.out HL1.out HLN.out HID.out).mono ?_
  rintro e w2 ⟨rfl, lv2, ha2, hf2, -⟩
  have hc2 := QA1.out.chg hf2
  have QA2 := Aside0.mk ha2
  have QX2 := Aside0.mk (QX1.out.trans hc2)
  have QB2 := Aside0.mk (QB1.out.chg hc2)
  clear QA1 QX1 QB1 hc2 hf2 ha2
  have o0 := cell_of QB2.out.h0 0
  have o1 := cell_of QB2.out.h0 1
  have o2 := cell_of QB2.out.h0 2
  have r0 := cell_of QB2.out.h1 0
  have r1 := cell_of QB2.out.h1 1
  have r2 := cell_of QB2.out.h1 2
  have r3 := cell_of QB2.out.h1 3
  have s0 := cell_of QB2.out.h2 0
  have s1 := cell_of QB2.out.h2 1
  have s2 := cell_of QB2.out.h2 2
  have s3 := cell_of QB2.out.h2 3
  simp only [List.getElem?_toArray, List.getElem?_cons_zero, List.getElem?_cons_succ] at o0 o1 o2 r0 r1 r2 r3 s0 s1 s2 s3
  have fr0 := fz_of QB2.out.h1 0
  have fr1 := fz_of QB2.out.h1 1
  have fr2 := fz_of QB2.out.h1 2
  have fr3 := fz_of QB2.out.h1 3
  have fs0 := fz_of QB2.out.h2 0
  have fs1 := fz_of QB2.out.h2 1
  have fs2 := fz_of QB2.out.h2 2
  have fs3 := fz_of QB2.out.h2 3
  have HB1 := Aside0.mk QB2.out.b1
  have HB2 := Aside0.mk QB2.out.b2
  go_wp2_with fail
  refine bodyPost_ret (v := .agg #[.int .i64 (last + 1), .bool false, .int .i64 0, .slice none 0 0]) (by simp [results, Try.results7, go_sem, r0, r1, r2, r3]) rfl ⟨none, 0, lv2, rfl, R46.nil _ _ _, ?_, ?_⟩
  · repeat (with_reducible first | exact QA2.out | refine Ax.box ?_ ?_ _)
    all_goals (with_reducible (repeat refine IsBox.set ?_ _ _)); (first | exact HB1.out | exact HB2.out)
  · have hbl := HBL.out
    repeat (with_reducible first | exact QX2.out | refine Chg.new ?_ (by dsimp only; omega) hbl _)

set_option maxRecDepth 100000 in
set_option maxHeartbeats 2000000 in
theorem does_cancel_none {base : Nat} {w : World} {g : Nat} {lv : Value} {mb : Nat} {h : List S38} {last : Int} (a : Ax base w g lv mb h last) (at_ id : Int) (hw : (Lit.int .i64 id).wf = true) (hn : ∀ j : Nat, j < h.length → (rd_T38 h j).f1 ≠ id) :
    Calls Try.prog 7 #[.pointer (some ⟨g, 0, none⟩), .agg #[.int .i64 1, .int .i64 at_, .int .i64 id]] w fun e w' => DsRet base w e w' g mb h last 0 false 0 [] := by
  have QA := Aside0.mk a
  have HBL := Aside0.mk a.base_le
  have HW := Aside0.mk hw
  have HN := Aside0.mk hn
  clear hw hn
  clear a
  go_enter Try.func7, Try.ntmps7
  go_wp2_with fail
  have QB1 := Aside0.mk (show DsBox (((w.alloc (.cells #[.int .i64 1, .int .i64 at_, .int .i64 id] 30)).alloc (.cells #[.int .i64 0, .bool false, .int .i64 0, .slice none 0 0] 33)).alloc (.cells #[.int .i64 0, .bool false, .int .i64 0, .slice none 0 0] 33)) w.heap.size 1 at_ id from ⟨(three_blocks w _ _ _).1, (three_blocks w _ _ _).2.1, (three_blocks w _ _ _).2.2⟩)
  have QW1 := Aside0.mk (show Below w.heap.size w (((w.alloc (.cells #[.int .i64 1, .int .i64 at_, .int .i64 id] 30)).alloc (.cells #[.int .i64 0, .bool false, .int .i64 0, .slice none 0 0] 33)).alloc (.cells #[.int .i64 0, .bool false, .int .i64 0, .slice none 0 0] 33)) from below_alloc (below_alloc (below_alloc (Below.refl _ _) _) _) _)
  generalize (((w.alloc (.cells #[.int .i64 1, .int .i64 at_, .int .i64 id] 30)).alloc (.cells #[.int .i64 0, .bool false, .int .i64 0, .slice none 0 0] 33)).alloc (.cells #[.int .i64 0, .bool false, .int .i64 0, .slice none 0 0] 33)) = w1 at QB1 QW1 ⊢
  have QA1 := Aside0.mk (QA.out.below QW1.out)
  have QX1 := Aside0.mk (Chg.of_below QW1.out HBL.out)
  clear QA QW1
  refine (cancel_none QA1.out id HW.out HN.out).mono ?_
  rintro e w2 ⟨rfl, hw2⟩
  have hb2 : Below w1.heap.size w1 w2 := hw2 ▸ Below.refl _ _
  clear hw2
  have QA2 := Aside0.mk (QA1.out.below hb2)
  have QX2 := Aside0.mk (QX1.out.trans (Chg.of_below hb2 QA1.out.base_le))
  have QB2 := Aside0.mk (QB1.out.below hb2)
  clear QA1 QX1 QB1 hb2
  have o0 := cell_of QB2.out.h0 0
  have o1 := cell_of QB2.out.h0 1
  have o2 := cell_of QB2.out.h0 2
  have r0 := cell_of QB2.out.h1 0
  have r1 := cell_of QB2.out.h1 1
  have r2 := cell_of QB2.out.h1 2
  have r3 := cell_of QB2.out.h1 3
  have s0 := cell_of QB2.out.h2 0
  have s1 := cell_of QB2.out.h2 1
  have s2 := cell_of QB2.out.h2 2
  have s3 := cell_of QB2.out.h2 3
  simp only [List.getElem?_toArray, List.getElem?_cons_zero, List.getElem?_cons_succ] at o0 o1 o2 r0 r1 r2 r3 s0 s1 s2 s3
  have fr0 := fz_of QB2.out.h1 0
  have fr1 := fz_of QB2.out.h1 1
  have fr2 := fz_of QB2.out.h1 2
  have fr3 := fz_of QB2.out.h1 3
  have fs0 := fz_of QB2.out.h2 0
  have fs1 := fz_of QB2.out.h2 1
  have fs2 := fz_of QB2.out.h2 2
  have fs3 := fz_of QB2.out.h2 3
  have HB1 := Aside0.mk QB2.out.b1
  have HB2 := Aside0.mk QB2.out.b2
  go_wp2_with fail
  refine bodyPost_ret (v := .agg #[.int .i64 0, .bool false, .int .i64 0, .slice none 0 0]) (by simp [results, Try.results7, go_sem, r0, r1, r2, r3]) rfl ⟨none, 0, lv, rfl, R46.nil _ _ _, ?_, ?_⟩
  · repeat (with_reducible first | exact QA2.out | refine Ax.box ?_ ?_ _)
    all_goals (with_reducible (repeat refine IsBox.set ?_ _ _)); (first | exact HB1.out | exact HB2.out)
  · have hbl := HBL.out
    repeat (with_reducible first | exact QX2.out | refine Chg.new ?_ (by dsimp only; omega) hbl _)

set_option maxRecDepth 100000 in
set_option maxHeartbeats 2000000 in
theorem does_cancel_some {base : Nat} {w : World} {g : Nat} {lv : Value} {mb : Nat} {h : List S38} {last : Int} (a : Ax base w g lv mb h last) (at_ id : Int) (j : Nat) (hj : j < h.length) (hid : (rd_T38 h j).f1 = id) :
    Calls Try.prog 7 #[.pointer (some ⟨g, 0, none⟩), .agg #[.int .i64 1, .int .i64 at_, .int .i64 id]] w fun e w' => DsRet base w e w' g mb (dropF h j) last 0 true 0 [] := by
  have QA := Aside0.mk a
  have HBL := Aside0.mk a.base_le
  have HJ := Aside0.mk hj
  have HIE := Aside0.mk hid
  clear hj hid
  clear a
  go_enter Try.func7, Try.ntmps7
  go_wp2_with fail
  have QB1 := Aside0.mk (show DsBox (((w.alloc (.cells #[.int .i64 1, .int .i64 at_, .int .i64 id] 30)).alloc (.cells #[.int .i64 0, .bool false, .int .i64 0, .slice none 0 0] 33)).alloc (.cells #[.int .i64 0, .bool false, .int .i64 0, .slice none 0 0] 33)) w.heap.size 1 at_ id from ⟨(three_blocks w _ _ _).1, (three_blocks w _ _ _).2.1, (three_blocks w _ _ _).2.2⟩)
  have QW1 := Aside0.mk (show Below w.heap.size w (((w.alloc (.cells #[.int .i64 1, .int .i64 at_, .int .i64 id] 30)).alloc (.cells #[.int .i64 0, .bool false, .int .i64 0, .slice none 0 0] 33)).alloc (.cells #[.int .i64 0, .bool false, .int .i64 0, .slice none 0 0] 33)) from below_alloc (below_alloc (below_alloc (Below.refl _ _) _) _) _)
  generalize (((w.alloc (.cells #[.int .i64 1, .int .i64 at_, .int .i64 id] 30)).alloc (.cells #[.int .i64 0, .bool false, .int .i64 0, .slice none 0 0] 33)).alloc (.cells #[.int .i64 0, .bool false, .int .i64 0, .slice none 0 0] 33)) = w1 at QB1 QW1 ⊢
  have QA1 := Aside0.mk (QA.out.below QW1.out)
  have QX1 := Aside0.mk (Chg.of_below QW1.out HBL.out)
  clear QA QW1
  have hcall := cancel_some QA1.out j HJ.out
  rw [HIE.out] at hcall
  refine hcall.mono ?_
  clear hcall
  rintro e w2 ⟨rfl, lv2, ha2, hf2, -⟩
  have hc2 := QA1.out.chg hf2
  have QA2 := Aside0.mk ha2
  have QX2 := Aside0.mk (QX1.out.trans hc2)
  have QB2 := Aside0.mk (QB1.out.chg hc2)
  clear QA1 QX1 QB1 hc2 hf2 ha2
  have o0 := cell_of QB2.out.h0 0
  have o1 := cell_of QB2.out.h0 1
  have o2 := cell_of QB2.out.h0 2
  have r0 := cell_of QB2.out.h1 0
  have r1 := cell_of QB2.out.h1 1
  have r2 := cell_of QB2.out.h1 2
  have r3 := cell_of QB2.out.h1 3
  have s0 := cell_of QB2.out.h2 0
  have s1 := cell_of QB2.out.h2 1
  have s2 := cell_of QB2.out.h2 2
  have s3 := cell_of QB2.out.h2 3
  simp only [List.getElem?_toArray, List.getElem?_cons_zero, List.getElem?_cons_succ] at o0 o1 o2 r0 r1 r2 r3 s0 s1 s2 s3
  have fr0 := fz_of QB2.out.h1 0
  have fr1 := fz_of QB2.out.h1 1
  have fr2 := fz_of QB2.out.h1 2
  have fr3 := fz_of QB2.out.h1 3
  have fs0 := fz_of QB2.out.h2 0
  have fs1 := fz_of QB2.out.h2 1
  have fs2 := fz_of QB2.out.h2 2
  have fs3 := fz_of QB2.out.h2 3
  have HB1 := Aside0.mk QB2.out.b1
  have HB2 := Aside0.mk QB2.out.b2
  go_wp2_with fail
  refine bodyPost_ret (v := .agg #[.int .i64 0, .bool true, .int .i64 0, .slice none 0 0]) (by simp [results, Try.results7, go_sem, r0, r1, r2, r3]) rfl ⟨none, 0, lv2, rfl, R46.nil _ _ _, ?_, ?_⟩
  · repeat (with_reducible first | exact QA2.out | refine Ax.box ?_ ?_ _)
    all_goals (with_reducible (repeat refine IsBox.set ?_ _ _)); (first | exact HB1.out | exact HB2.out)
  · have hbl := HBL.out
    repeat (with_reducible first | exact QX2.out | refine Chg.new ?_ (by dsimp only; omega) hbl _)

set_option maxRecDepth 100000 in
set_option maxHeartbeats 2000000 in
theorem does_move_none {base : Nat} {w : World} {g : Nat} {lv : Value} {mb : Nat} {h : List S38} {last : Int} (a : Ax base w g lv mb h last) (at_ id : Int) (hw : (Lit.int .i64 id).wf = true) (hn : ∀ j : Nat, j < h.length → (rd_T38 h j).f1 ≠ id) :
    Calls Try.prog 7 #[.pointer (some ⟨g, 0, none⟩), .agg #[.int .i64 2, .int .i64 at_, .int .i64 id]] w fun e w' => DsRet base w e w' g mb h last 0 false 0 [] := by
  have QA := Aside0.mk a
  have HBL := Aside0.mk a.base_le
  have HW := Aside0.mk hw
  have HN := Aside0.mk hn
  clear hw hn
  clear a
  go_enter Try.func7, Try.ntmps7
  go_wp2_with fail
  have QB1 := Aside0.mk (show DsBox (((w.alloc (.cells #[.int .i64 2, .int .i64 at_, .int .i64 id] 30)).alloc (.cells #[.int .i64 0, .bool false, .int .i64 0, .slice none 0 0] 33)).alloc (.cells #[.int .i64 0, .bool false, .int .i64 0, .slice none 0 0] 33)) w.heap.size 2 at_ id from ⟨(three_blocks w _ _ _).1, (three_blocks w _ _ _).2.1, (three_blocks w _ _ _).2.2⟩)
  have QW1 := Aside0.mk (show Below w.heap.size w (((w.alloc (.cells #[.int .i64 2, .int .i64 at_, .int .i64 id] 30)).alloc (.cells #[.int .i64 0, .bool false, .int .i64 0, .slice none 0 0] 33)).alloc (.cells #[.int .i64 0, .bool false, .int .i64 0, .slice none 0 0] 33)) from below_alloc (below_alloc (below_alloc (Below.refl _ _) _) _) _)
  generalize (((w.alloc (.cells #[.int .i64 2, .int .i64 at_, .int .i64 id] 30)).alloc (.cells #[.int .i64 0, .bool false, .int .i64 0, .slice none 0 0] 33)).alloc (.cells #[.int .i64 0, .bool false, .int .i64 0, .slice none 0 0] 33)) = w1 at QB1 QW1 ⊢
  have QA1 := Aside0.mk (QA.out.below QW1.out)
  have QX1 := Aside0.mk (Chg.of_below QW1.out HBL.out)
  clear QA QW1
  refine (move_none QA1.out id at_ HW.out HN.out).mono ?_
  rintro e w2 ⟨rfl, hb2⟩
  have QA2 := Aside0.mk (QA1.out.below hb2)
  have QX2 := Aside0.mk (QX1.out.trans (Chg.of_below hb2 QA1.out.base_le))
  have QB2 := Aside0.mk (QB1.out.below hb2)
  clear QA1 QX1 QB1 hb2
  have o0 := cell_of QB2.out.h0 0
  have o1 := cell_of QB2.out.h0 1
  have o2 := cell_of QB2.out.h0 2
  have r0 := cell_of QB2.out.h1 0
  have r1 := cell_of QB2.out.h1 1
  have r2 := cell_of QB2.out.h1 2
  have r3 := cell_of QB2.out.h1 3
  have s0 := cell_of QB2.out.h2 0
  have s1 := cell_of QB2.out.h2 1
  have s2 := cell_of QB2.out.h2 2
  have s3 := cell_of QB2.out.h2 3
  simp only [List.getElem?_toArray, List.getElem?_cons_zero, List.getElem?_cons_succ] at o0 o1 o2 r0 r1 r2 r3 s0 s1 s2 s3
  have fr0 := fz_of QB2.out.h1 0
  have fr1 := fz_of QB2.out.h1 1
  have fr2 := fz_of QB2.out.h1 2
  have fr3 := fz_of QB2.out.h1 3
  have fs0 := fz_of QB2.out.h2 0
  have fs1 := fz_of QB2.out.h2 1
  have fs2 := fz_of QB2.out.h2 2
  have fs3 := fz_of QB2.out.h2 3
  have HB1 := Aside0.mk QB2.out.b1
  have HB2 := Aside0.mk QB2.out.b2
  go_wp2_with fail
  refine bodyPost_ret (v := .agg #[.int .i64 0, .bool false, .int .i64 0, .slice none 0 0]) (by simp [results, Try.results7, go_sem, r0, r1, r2, r3]) rfl ⟨none, 0, lv, rfl, R46.nil _ _ _, ?_, ?_⟩
  · repeat (with_reducible first | exact QA2.out | refine Ax.box ?_ ?_ _)
    all_goals (with_reducible (repeat refine IsBox.set ?_ _ _)); (first | exact HB1.out | exact HB2.out)
  · have hbl := HBL.out
    repeat (with_reducible first | exact QX2.out | refine Chg.new ?_ (by dsimp only; omega) hbl _)

set_option maxRecDepth 100000 in
set_option maxHeartbeats 2000000 in
theorem does_move_wrong {base : Nat} {w : World} {g : Nat} {lv : Value} {mb : Nat} {h : List S38} {last : Int} (a : Ax base w g lv mb h last) (at_ id : Int) (j : Nat) (hj : j < h.length) (hid : (rd_T38 h j).f1 = id) (hat : ¬ (0 ≤ at_ ∧ at_ ≤ 1099511627776)) :
    Calls Try.prog 7 #[.pointer (some ⟨g, 0, none⟩), .agg #[.int .i64 2, .int .i64 at_, .int .i64 id]] w fun e w' => DsRet base w e w' g mb h last 0 false 0 [] := by
  have QA := Aside0.mk a
  have HBL := Aside0.mk a.base_le
  have HJ := Aside0.mk hj
  have HIE := Aside0.mk hid
  clear hj hid
  have HAT := Aside0.mk hat
  clear hat
  clear a
  go_enter Try.func7, Try.ntmps7
  go_wp2_with fail
  have QB1 := Aside0.mk (show DsBox (((w.alloc (.cells #[.int .i64 2, .int .i64 at_, .int .i64 id] 30)).alloc (.cells #[.int .i64 0, .bool false, .int .i64 0, .slice none 0 0] 33)).alloc (.cells #[.int .i64 0, .bool false, .int .i64 0, .slice none 0 0] 33)) w.heap.size 2 at_ id from ⟨(three_blocks w _ _ _).1, (three_blocks w _ _ _).2.1, (three_blocks w _ _ _).2.2⟩)
  have QW1 := Aside0.mk (show Below w.heap.size w (((w.alloc (.cells #[.int .i64 2, .int .i64 at_, .int .i64 id] 30)).alloc (.cells #[.int .i64 0, .bool false, .int .i64 0, .slice none 0 0] 33)).alloc (.cells #[.int .i64 0, .bool false, .int .i64 0, .slice none 0 0] 33)) from below_alloc (below_alloc (below_alloc (Below.refl _ _) _) _) _)
  generalize (((w.alloc (.cells #[.int .i64 2, .int .i64 at_, .int .i64 id] 30)).alloc (.cells #[.int .i64 0, .bool false, .int .i64 0, .slice none 0 0] 33)).alloc (.cells #[.int .i64 0, .bool false, .int .i64 0, .slice none 0 0] 33)) = w1 at QB1 QW1 ⊢
  have QA1 := Aside0.mk (QA.out.below QW1.out)
  have QX1 := Aside0.mk (Chg.of_below QW1.out HBL.out)
  clear QA QW1
  have hcall := move_wrong QA1.out j HJ.out at_ HAT.out
  rw [HIE.out] at hcall
  refine hcall.mono ?_
  clear hcall
  rintro e w2 ⟨rfl, hb2⟩
  have QA2 := Aside0.mk (QA1.out.below hb2)
  have QX2 := Aside0.mk (QX1.out.trans (Chg.of_below hb2 QA1.out.base_le))
  have QB2 := Aside0.mk (QB1.out.below hb2)
  clear QA1 QX1 QB1 hb2
  have o0 := cell_of QB2.out.h0 0
  have o1 := cell_of QB2.out.h0 1
  have o2 := cell_of QB2.out.h0 2
  have r0 := cell_of QB2.out.h1 0
  have r1 := cell_of QB2.out.h1 1
  have r2 := cell_of QB2.out.h1 2
  have r3 := cell_of QB2.out.h1 3
  have s0 := cell_of QB2.out.h2 0
  have s1 := cell_of QB2.out.h2 1
  have s2 := cell_of QB2.out.h2 2
  have s3 := cell_of QB2.out.h2 3
  simp only [List.getElem?_toArray, List.getElem?_cons_zero, List.getElem?_cons_succ] at o0 o1 o2 r0 r1 r2 r3 s0 s1 s2 s3
  have fr0 := fz_of QB2.out.h1 0
  have fr1 := fz_of QB2.out.h1 1
  have fr2 := fz_of QB2.out.h1 2
  have fr3 := fz_of QB2.out.h1 3
  have fs0 := fz_of QB2.out.h2 0
  have fs1 := fz_of QB2.out.h2 1
  have fs2 := fz_of QB2.out.h2 2
  have fs3 := fz_of QB2.out.h2 3
  have HB1 := Aside0.mk QB2.out.b1
  have HB2 := Aside0.mk QB2.out.b2
  go_wp2_with fail
  refine bodyPost_ret (v := .agg #[.int .i64 0, .bool false, .int .i64 0, .slice none 0 0]) (by simp [results, Try.results7, go_sem, r0, r1, r2, r3]) rfl ⟨none, 0, lv, rfl, R46.nil _ _ _, ?_, ?_⟩
  · repeat (with_reducible first | exact QA2.out | refine Ax.box ?_ ?_ _)
    all_goals (with_reducible (repeat refine IsBox.set ?_ _ _)); (first | exact HB1.out | exact HB2.out)
  · have hbl := HBL.out
    repeat (with_reducible first | exact QX2.out | refine Chg.new ?_ (by dsimp only; omega) hbl _)

set_option maxRecDepth 100000 in
set_option maxHeartbeats 2000000 in
theorem does_move_some {base : Nat} {w : World} {g : Nat} {lv : Value} {mb : Nat} {h : List S38} {last : Int} (a : Ax base w g lv mb h last) (at_ id : Int) (j : Nat) (hj : j < h.length) (hid : (rd_T38 h j).f1 = id) (hat : 0 ≤ at_ ∧ at_ ≤ 1099511627776) :
    Calls Try.prog 7 #[.pointer (some ⟨g, 0, none⟩), .agg #[.int .i64 2, .int .i64 at_, .int .i64 id]] w fun e w' => ∃ q : Nat, q < h.length ∧ (rd_T38 (riseF (atF h j at_) j) q).f1 = id ∧ DsRet base w e w' g mb (sinkF (riseF (atF h j at_) j) q) last 0 true 0 [] := by
  have QA := Aside0.mk a
  have HBL := Aside0.mk a.base_le
  have HJ := Aside0.mk hj
  have HIE := Aside0.mk hid
  clear hj hid
  have HAT := Aside0.mk hat
  clear hat
  clear a
  go_enter Try.func7, Try.ntmps7
  go_wp2_with fail
  have QB1 := Aside0.mk (show DsBox (((w.alloc (.cells #[.int .i64 2, .int .i64 at_, .int .i64 id] 30)).alloc (.cells #[.int .i64 0, .bool false, .int .i64 0, .slice none 0 0] 33)).alloc (.cells #[.int .i64 0, .bool false, .int .i64 0, .slice none 0 0] 33)) w.heap.size 2 at_ id from ⟨(three_blocks w _ _ _).1, (three_blocks w _ _ _).2.1, (three_blocks w _ _ _).2.2⟩)
  have QW1 := Aside0.mk (show Below w.heap.size w (((w.alloc (.cells #[.int .i64 2, .int .i64 at_, .int .i64 id] 30)).alloc (.cells #[.int .i64 0, .bool false, .int .i64 0, .slice none 0 0] 33)).alloc (.cells #[.int .i64 0, .bool false, .int .i64 0, .slice none 0 0] 33)) from below_alloc (below_alloc (below_alloc (Below.refl _ _) _) _) _)
  generalize (((w.alloc (.cells #[.int .i64 2, .int .i64 at_, .int .i64 id] 30)).alloc (.cells #[.int .i64 0, .bool false, .int .i64 0, .slice none 0 0] 33)).alloc (.cells #[.int .i64 0, .bool false, .int .i64 0, .slice none 0 0] 33)) = w1 at QB1 QW1 ⊢
  have QA1 := Aside0.mk (QA.out.below QW1.out)
  have QX1 := Aside0.mk (Chg.of_below QW1.out HBL.out)
  clear QA QW1
  have hcall := move_calls QA1.out j HJ.out at_ HAT.out.1 HAT.out.2
  rw [HIE.out] at hcall
  refine hcall.mono ?_
  clear hcall
  rintro e w2 ⟨rfl, q, hq, hqe, ha2, hf2⟩
  have hc2 := QA1.out.chg hf2
  have QA2 := Aside0.mk ha2
  have QX2 := Aside0.mk (QX1.out.trans hc2)
  have QB2 := Aside0.mk (QB1.out.chg hc2)
  clear QA1 QX1 QB1 hc2 hf2 ha2
  have HQ := Aside0.mk hq
  have HQE := Aside0.mk hqe
  clear hq hqe
  have o0 := cell_of QB2.out.h0 0
  have o1 := cell_of QB2.out.h0 1
  have o2 := cell_of QB2.out.h0 2
  have r0 := cell_of QB2.out.h1 0
  have r1 := cell_of QB2.out.h1 1
  have r2 := cell_of QB2.out.h1 2
  have r3 := cell_of QB2.out.h1 3
  have s0 := cell_of QB2.out.h2 0
  have s1 := cell_of QB2.out.h2 1
  have s2 := cell_of QB2.out.h2 2
  have s3 := cell_of QB2.out.h2 3
  simp only [List.getElem?_toArray, List.getElem?_cons_zero, List.getElem?_cons_succ] at o0 o1 o2 r0 r1 r2 r3 s0 s1 s2 s3
  have fr0 := fz_of QB2.out.h1 0
  have fr1 := fz_of QB2.out.h1 1
  have fr2 := fz_of QB2.out.h1 2
  have fr3 := fz_of QB2.out.h1 3
  have fs0 := fz_of QB2.out.h2 0
  have fs1 := fz_of QB2.out.h2 1
  have fs2 := fz_of QB2.out.h2 2
  have fs3 := fz_of QB2.out.h2 3
  have HB1 := Aside0.mk QB2.out.b1
  have HB2 := Aside0.mk QB2.out.b2
  go_wp2_with fail
  refine bodyPost_ret (v := .agg #[.int .i64 0, .bool true, .int .i64 0, .slice none 0 0]) (by simp [results, Try.results7, go_sem, r0, r1, r2, r3]) rfl ⟨q, HQ.out, HQE.out, none, 0, lv, rfl, R46.nil _ _ _, ?_, ?_⟩
  · repeat (with_reducible first | exact QA2.out | refine Ax.box ?_ ?_ _)
    all_goals (with_reducible (repeat refine IsBox.set ?_ _ _)); (first | exact HB1.out | exact HB2.out)
  · have hbl := HBL.out
    repeat (with_reducible first | exact QX2.out | refine Chg.new ?_ (by dsimp only; omega) hbl _)

set_option maxRecDepth 100000 in
set_option maxHeartbeats 2000000 in
theorem does_when_none {base : Nat} {w : World} {g : Nat} {lv : Value} {mb : Nat} {h : List S38} {last : Int} (a : Ax base w g lv mb h last) (at_ id : Int) (hw : (Lit.int .i64 id).wf = true) (hn : ∀ j : Nat, j < h.length → (rd_T38 h j).f1 ≠ id) :
    Calls Try.prog 7 #[.pointer (some ⟨g, 0, none⟩), .agg #[.int .i64 3, .int .i64 at_, .int .i64 id]] w fun e w' => DsRet base w e w' g mb h last 0 false 0 [] := by
  have QA := Aside0.mk a
  have HBL := Aside0.mk a.base_le
  have HW := Aside0.mk hw
  have HN := Aside0.mk hn
  clear hw hn
  clear a
  go_enter Try.func7, Try.ntmps7
  go_wp2_with fail
  have QB1 := Aside0.mk (show DsBox (((w.alloc (.cells #[.int .i64 3, .int .i64 at_, .int .i64 id] 30)).alloc (.cells #[.int .i64 0, .bool false, .int .i64 0, .slice none 0 0] 33)).alloc (.cells #[.int .i64 0, .bool false, .int .i64 0, .slice none 0 0] 33)) w.heap.size 3 at_ id from ⟨(three_blocks w _ _ _).1, (three_blocks w _ _ _).2.1, (three_blocks w _ _ _).2.2⟩)
  have QW1 := Aside0.mk (show Below w.heap.size w (((w.alloc (.cells #[.int .i64 3, .int .i64 at_, .int .i64 id] 30)).alloc (.cells #[.int .i64 0, .bool false, .int .i64 0, .slice none 0 0] 33)).alloc (.cells #[.int .i64 0, .bool false, .int .i64 0, .slice none 0 0] 33)) from below_alloc (below_alloc (below_alloc (Below.refl _ _) _) _) _)
  generalize (((w.alloc (.cells #[.int .i64 3, .int .i64 at_, .int .i64 id] 30)).alloc (.cells #[.int .i64 0, .bool false, .int .i64 0, .slice none 0 0] 33)).alloc (.cells #[.int .i64 0, .bool false, .int .i64 0, .slice none 0 0] 33)) = w1 at QB1 QW1 ⊢
  have QA1 := Aside0.mk (QA.out.below QW1.out)
  have QX1 := Aside0.mk (Chg.of_below QW1.out HBL.out)
  clear QA QW1
  refine (when_none QA1.out id HW.out HN.out).mono ?_
  rintro e w2 ⟨rfl, hw2⟩
  have hb2 : Below w1.heap.size w1 w2 := hw2 ▸ Below.refl _ _
  clear hw2
  have QA2 := Aside0.mk (QA1.out.below hb2)
  have QX2 := Aside0.mk (QX1.out.trans (Chg.of_below hb2 QA1.out.base_le))
  have QB2 := Aside0.mk (QB1.out.below hb2)
  clear QA1 QX1 QB1 hb2
  have o0 := cell_of QB2.out.h0 0
  have o1 := cell_of QB2.out.h0 1
  have o2 := cell_of QB2.out.h0 2
  have r0 := cell_of QB2.out.h1 0
  have r1 := cell_of QB2.out.h1 1
  have r2 := cell_of QB2.out.h1 2
  have r3 := cell_of QB2.out.h1 3
  have s0 := cell_of QB2.out.h2 0
  have s1 := cell_of QB2.out.h2 1
  have s2 := cell_of QB2.out.h2 2
  have s3 := cell_of QB2.out.h2 3
  simp only [List.getElem?_toArray, List.getElem?_cons_zero, List.getElem?_cons_succ] at o0 o1 o2 r0 r1 r2 r3 s0 s1 s2 s3
  have fr0 := fz_of QB2.out.h1 0
  have fr1 := fz_of QB2.out.h1 1
  have fr2 := fz_of QB2.out.h1 2
  have fr3 := fz_of QB2.out.h1 3
  have fs0 := fz_of QB2.out.h2 0
  have fs1 := fz_of QB2.out.h2 1
  have fs2 := fz_of QB2.out.h2 2
  have fs3 := fz_of QB2.out.h2 3
  have HB1 := Aside0.mk QB2.out.b1
  have HB2 := Aside0.mk QB2.out.b2
  go_wp2_with fail
  refine bodyPost_ret (v := .agg #[.int .i64 0, .bool false, .int .i64 0, .slice none 0 0]) (by simp [results, Try.results7, go_sem, r0, r1, r2, r3]) rfl ⟨none, 0, lv, rfl, R46.nil _ _ _, ?_, ?_⟩
  · repeat (with_reducible first | exact QA2.out | refine Ax.box ?_ ?_ _)
    all_goals (with_reducible (repeat refine IsBox.set ?_ _ _)); (first | exact HB1.out | exact HB2.out)
  · have hbl := HBL.out
    repeat (with_reducible first | exact QX2.out | refine Chg.new ?_ (by dsimp only; omega) hbl _)

set_option maxRecDepth 100000 in
set_option maxHeartbeats 2000000 in
theorem does_when_some {base : Nat} {w : World} {g : Nat} {lv : Value} {mb : Nat} {h : List S38} {last : Int} (a : Ax base w g lv mb h last) (at_ id : Int) (j : Nat) (hj : j < h.length) (hid : (rd_T38 h j).f1 = id) :
    Calls Try.prog 7 #[.pointer (some ⟨g, 0, none⟩), .agg #[.int .i64 3, .int .i64 at_, .int .i64 id]] w fun e w' => DsRet base w e w' g mb h last (rd_T38 h j).f0 true 0 [] := by
  have QA := Aside0.mk a
  have HBL := Aside0.mk a.base_le
  have HJ := Aside0.mk hj
  have HIE := Aside0.mk hid
  clear hj hid
  clear a
  go_enter Try.func7, Try.ntmps7
  go_wp2_with fail
  have QB1 := Aside0.mk (show DsBox (((w.alloc (.cells #[.int .i64 3, .int .i64 at_, .int .i64 id] 30)).alloc (.cells #[.int .i64 0, .bool false, .int .i64 0, .slice none 0 0] 33)).alloc (.cells #[.int .i64 0, .bool false, .int .i64 0, .slice none 0 0] 33)) w.heap.size 3 at_ id from ⟨(three_blocks w _ _ _).1, (three_blocks w _ _ _).2.1, (three_blocks w _ _ _).2.2⟩)
  have QW1 := Aside0.mk (show Below w.heap.size w (((w.alloc (.cells #[.int .i64 3, .int .i64 at_, .int .i64 id] 30)).alloc (.cells #[.int .i64 0, .bool false, .int .i64 0, .slice none 0 0] 33)).alloc (.cells #[.int .i64 0, .bool false, .int .i64 0, .slice none 0 0] 33)) from below_alloc (below_alloc (below_alloc (Below.refl _ _) _) _) _)
  generalize (((w.alloc (.cells #[.int .i64 3, .int .i64 at_, .int .i64 id] 30)).alloc (.cells #[.int .i64 0, .bool false, .int .i64 0, .slice none 0 0] 33)).alloc (.cells #[.int .i64 0, .bool false, .int .i64 0, .slice none 0 0] 33)) = w1 at QB1 QW1 ⊢
  have QA1 := Aside0.mk (QA.out.below QW1.out)
  have QX1 := Aside0.mk (Chg.of_below QW1.out HBL.out)
  clear QA QW1
  have hcall := when_some QA1.out j HJ.out
  rw [HIE.out] at hcall
  refine hcall.mono ?_
  clear hcall
  rintro e w2 ⟨rfl, hw2⟩
  have hb2 : Below w1.heap.size w1 w2 := hw2 ▸ Below.refl _ _
  clear hw2
  have QA2 := Aside0.mk (QA1.out.below hb2)
  have QX2 := Aside0.mk (QX1.out.trans (Chg.of_below hb2 QA1.out.base_le))
  have QB2 := Aside0.mk (QB1.out.below hb2)
  clear QA1 QX1 QB1 hb2
  have o0 := cell_of QB2.out.h0 0
  have o1 := cell_of QB2.out.h0 1
  have o2 := cell_of QB2.out.h0 2
  have r0 := cell_of QB2.out.h1 0
  have r1 := cell_of QB2.out.h1 1
  have r2 := cell_of QB2.out.h1 2
  have r3 := cell_of QB2.out.h1 3
  have s0 := cell_of QB2.out.h2 0
  have s1 := cell_of QB2.out.h2 1
  have s2 := cell_of QB2.out.h2 2
  have s3 := cell_of QB2.out.h2 3
  simp only [List.getElem?_toArray, List.getElem?_cons_zero, List.getElem?_cons_succ] at o0 o1 o2 r0 r1 r2 r3 s0 s1 s2 s3
  have fr0 := fz_of QB2.out.h1 0
  have fr1 := fz_of QB2.out.h1 1
  have fr2 := fz_of QB2.out.h1 2
  have fr3 := fz_of QB2.out.h1 3
  have fs0 := fz_of QB2.out.h2 0
  have fs1 := fz_of QB2.out.h2 1
  have fs2 := fz_of QB2.out.h2 2
  have fs3 := fz_of QB2.out.h2 3
  have HB1 := Aside0.mk QB2.out.b1
  have HB2 := Aside0.mk QB2.out.b2
  go_wp2_with fail
  refine bodyPost_ret (v := .agg #[.int .i64 (rd_T38 h j).f0, .bool true, .int .i64 0, .slice none 0 0]) (by simp [results, Try.results7, go_sem, r0, r1, r2, r3]) rfl ⟨none, 0, lv, rfl, R46.nil _ _ _, ?_, ?_⟩
  · repeat (with_reducible first | exact QA2.out | refine Ax.box ?_ ?_ _)
    all_goals (with_reducible (repeat refine IsBox.set ?_ _ _)); (first | exact HB1.out | exact HB2.out)
  · have hbl := HBL.out
    repeat (with_reducible first | exact QX2.out | refine Chg.new ?_ (by dsimp only; omega) hbl _)

set_option maxRecDepth 100000 in
set_option maxHeartbeats 2000000 in
theorem does_take {base : Nat} {w : World} {g : Nat} {lv : Value} {mb : Nat} {h : List S38} {last : Int} (a : Ax base w g lv mb h last) (at_ id : Int) (hlen : (takeF at_ h).1.length < 1000000) :
    Calls Try.prog 7 #[.pointer (some ⟨g, 0, none⟩), .agg #[.int .i64 4, .int .i64 at_, .int .i64 id]] w fun e w' => DsRet base w e w' g mb (takeF at_ h).2 last 0 false 0 (m46 (takeF at_ h).1) := by
  have QA := Aside0.mk a
  have HBL := Aside0.mk a.base_le
  have HLN := Aside0.mk hlen
  clear hlen
  clear a
  go_enter Try.func7, Try.ntmps7
  go_wp2_with fail
  have QB1 := Aside0.mk (show DsBox (((w.alloc (.cells #[.int .i64 4, .int .i64 at_, .int .i64 id] 30)).alloc (.cells #[.int .i64 0, .bool false, .int .i64 0, .slice none 0 0] 33)).alloc (.cells #[.int .i64 0, .bool false, .int .i64 0, .slice none 0 0] 33)) w.heap.size 4 at_ id from ⟨(three_blocks w _ _ _).1, (three_blocks w _ _ _).2.1, (three_blocks w _ _ _).2.2⟩)
  have QW1 := Aside0.mk (show Below w.heap.size w (((w.alloc (.cells #[.int .i64 4, .int .i64 at_, .int .i64 id] 30)).alloc (.cells #[.int .i64 0, .bool false, .int .i64 0, .slice none 0 0] 33)).alloc (.cells #[.int .i64 0, .bool false, .int .i64 0, .slice none 0 0] 33)) from below_alloc (below_alloc (below_alloc (Below.refl _ _) _) _) _)
  generalize (((w.alloc (.cells #[.int .i64 4, .int .i64 at_, .int .i64 id] 30)).alloc (.cells #[.int .i64 0, .bool false, .int .i64 0, .slice none 0 0] 33)).alloc (.cells #[.int .i64 0, .bool false, .int .i64 0, .slice none 0 0] 33)) = w1 at QB1 QW1 ⊢
  have QA1 := Aside0.mk (QA.out.below QW1.out)
  have QX1 := Aside0.mk (Chg.of_below QW1.out HBL.out)
  clear QA QW1
  refine (take_calls QA1.out at_).mono ?_
  rintro e w2 ⟨v2, rfl, hr2, lv2, ha2, hf2, -⟩
  have hc2 := QA1.out.chg hf2
  have QA2 := Aside0.mk ha2
  have QX2 := Aside0.mk (QX1.out.trans hc2)
  have QB2 := Aside0.mk (QB1.out.chg hc2)
  clear QA1 QX1 QB1 hc2 hf2 ha2
  have HR2 := Aside0.mk hr2
  clear hr2
  go_wp2_with fail
  refine (rows_calls w2 v2 _ HLN.out HR2.out).mono ?_
  rintro e w3 ⟨A3, c3, rfl, hr3, hb3⟩
  have HR3 := Aside0.mk hr3
  have QA3 := Aside0.mk (QA2.out.below hb3)
  have QX3 := Aside0.mk (QX2.out.trans (Chg.of_below hb3 QA2.out.base_le))
  have QB3 := Aside0.mk (QB2.out.below hb3)
  clear QA2 QX2 QB2 hb3 hr3 HR2
  obtain ⟨n3, hn3⟩ : ∃ n, n = (m46 (takeF at_ h).1).length := ⟨_, rfl⟩
  rw [← hn3]
  have HN3 := Aside0.mk hn3
  clear hn3
  have o0 := cell_of QB3.out.h0 0
  have o1 := cell_of QB3.out.h0 1
  have o2 := cell_of QB3.out.h0 2
  have r0 := cell_of QB3.out.h1 0
  have r1 := cell_of QB3.out.h1 1
  have r2 := cell_of QB3.out.h1 2
  have r3 := cell_of QB3.out.h1 3
  have s0 := cell_of QB3.out.h2 0
  have s1 := cell_of QB3.out.h2 1
  have s2 := cell_of QB3.out.h2 2
  have s3 := cell_of QB3.out.h2 3
  simp only [List.getElem?_toArray, List.getElem?_cons_zero, List.getElem?_cons_succ] at o0 o1 o2 r0 r1 r2 r3 s0 s1 s2 s3
  have fr0 := fz_of QB3.out.h1 0
  have fr1 := fz_of QB3.out.h1 1
  have fr2 := fz_of QB3.out.h1 2
  have fr3 := fz_of QB3.out.h1 3
  have fs0 := fz_of QB3.out.h2 0
  have fs1 := fz_of QB3.out.h2 1
  have fs2 := fz_of QB3.out.h2 2
  have fs3 := fz_of QB3.out.h2 3
  have HB1 := Aside0.mk QB3.out.b1
  have HB2 := Aside0.mk QB3.out.b2
  go_wp2_with fail
  refine bodyPost_ret (v := .agg #[.int .i64 0, .bool false, .int .i64 0, .slice A3 n3 c3]) (by simp [results, Try.results7, go_sem, r0, r1, r2, r3]) rfl ⟨A3, c3, lv2, by rw [HN3.out], ?_, ?_, ?_⟩
  · repeat (with_reducible first | exact HR3.out | refine R46.box ?_ ?_ _)
    all_goals (with_reducible (repeat refine IsBox.set ?_ _ _)); (first | exact HB1.out | exact HB2.out)
  · repeat (with_reducible first | exact QA3.out | refine Ax.box ?_ ?_ _)
    all_goals (with_reducible (repeat refine IsBox.set ?_ _ _)); (first | exact HB1.out | exact HB2.out)
  · have hbl := HBL.out
    repeat (with_reducible first | exact QX3.out | refine Chg.new ?_ (by dsimp only; omega) hbl _)

set_option maxRecDepth 100000 in
set_option maxHeartbeats 2000000 in
theorem does_other {base : Nat} {w : World} {g : Nat} {lv : Value} {mb : Nat} {h : List S38} {last : Int} (a : Ax base w g lv mb h last) (at_ id kind : Int) (h0 : kind ≠ 0) (h1 : kind ≠ 1) (h2 : kind ≠ 2) (h3 : kind ≠ 3) (h4 : kind ≠ 4) :
    Calls Try.prog 7 #[.pointer (some ⟨g, 0, none⟩), .agg #[.int .i64 kind, .int .i64 at_, .int .i64 id]] w fun e w' => DsRet base w e w' g mb h last 0 false 0 [] := by
  have QA := Aside0.mk a
  have HBL := Aside0.mk a.base_le
  have k0 : (kind == 0) = false := beq_eq_false_iff_ne.mpr h0
  have k1 : (kind == 1) = false := beq_eq_false_iff_ne.mpr h1
  have k2 : (kind == 2) = false := beq_eq_false_iff_ne.mpr h2
  have k3 : (kind == 3) = false := beq_eq_false_iff_ne.mpr h3
  have k4 : (kind == 4) = false := beq_eq_false_iff_ne.mpr h4
  clear h0 h1 h2 h3 h4
  clear a
  go_enter Try.func7, Try.ntmps7
  go_wp2_with fail
  have QB1 := Aside0.mk (show DsBox (((w.alloc (.cells #[.int .i64 kind, .int .i64 at_, .int .i64 id] 30)).alloc (.cells #[.int .i64 0, .bool false, .int .i64 0, .slice none 0 0] 33)).alloc (.cells #[.int .i64 0, .bool false, .int .i64 0, .slice none 0 0] 33)) w.heap.size kind at_ id from ⟨(three_blocks w _ _ _).1, (three_blocks w _ _ _).2.1, (three_blocks w _ _ _).2.2⟩)
  have QW1 := Aside0.mk (show Below w.heap.size w (((w.alloc (.cells #[.int .i64 kind, .int .i64 at_, .int .i64 id] 30)).alloc (.cells #[.int .i64 0, .bool false, .int .i64 0, .slice none 0 0] 33)).alloc (.cells #[.int .i64 0, .bool false, .int .i64 0, .slice none 0 0] 33)) from below_alloc (below_alloc (below_alloc (Below.refl _ _) _) _) _)
  generalize (((w.alloc (.cells #[.int .i64 kind, .int .i64 at_, .int .i64 id] 30)).alloc (.cells #[.int .i64 0, .bool false, .int .i64 0, .slice none 0 0] 33)).alloc (.cells #[.int .i64 0, .bool false, .int .i64 0, .slice none 0 0] 33)) = w1 at QB1 QW1 ⊢
  have QA1 := Aside0.mk (QA.out.below QW1.out)
  have QX1 := Aside0.mk (Chg.of_below QW1.out HBL.out)
  clear QA QW1
  have QA2 := QA1
  have QX2 := QX1
  have QB2 := QB1
  have o0 := cell_of QB2.out.h0 0
  have o1 := cell_of QB2.out.h0 1
  have o2 := cell_of QB2.out.h0 2
  have r0 := cell_of QB2.out.h1 0
  have r1 := cell_of QB2.out.h1 1
  have r2 := cell_of QB2.out.h1 2
  have r3 := cell_of QB2.out.h1 3
  have s0 := cell_of QB2.out.h2 0
  have s1 := cell_of QB2.out.h2 1
  have s2 := cell_of QB2.out.h2 2
  have s3 := cell_of QB2.out.h2 3
  simp only [List.getElem?_toArray, List.getElem?_cons_zero, List.getElem?_cons_succ] at o0 o1 o2 r0 r1 r2 r3 s0 s1 s2 s3
  have fr0 := fz_of QB2.out.h1 0
  have fr1 := fz_of QB2.out.h1 1
  have fr2 := fz_of QB2.out.h1 2
  have fr3 := fz_of QB2.out.h1 3
  have fs0 := fz_of QB2.out.h2 0
  have fs1 := fz_of QB2.out.h2 1
  have fs2 := fz_of QB2.out.h2 2
  have fs3 := fz_of QB2.out.h2 3
  have HB1 := Aside0.mk QB2.out.b1
  have HB2 := Aside0.mk QB2.out.b2
  go_wp2_with fail
  refine bodyPost_ret (v := .agg #[.int .i64 0, .bool false, .int .i64 0, .slice none 0 0]) (by simp [results, Try.results7, go_sem, r0, r1, r2, r3]) rfl ⟨none, 0, lv, rfl, R46.nil _ _ _, ?_, ?_⟩
  · repeat (with_reducible first | exact QA2.out | refine Ax.box ?_ ?_ _)
    all_goals (with_reducible (repeat refine IsBox.set ?_ _ _)); (first | exact HB1.out | exact HB2.out)
  · have hbl := HBL.out
    repeat (with_reducible first | exact QX2.out | refine Chg.new ?_ (by dsimp only; omega) hbl _)

end Go.Proofs.Ytpfoefmcjbdeeaa
