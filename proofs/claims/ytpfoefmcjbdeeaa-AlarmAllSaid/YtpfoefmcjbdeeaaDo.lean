/-
  The reference's call: what it makes of a row in order.
-/
import Derived.Test.YtpfoefmcjbdeeaaSpec
import Derived.Deep.RegionHeld3
namespace Go.Proofs.Ytpfoefmcjbdeeaa
open Go.RowKit Go.Maps Go.Proofs.YtpfoefmcjbdeeaaW.PrintWords Go.Proofs.YtpfoefmcjbdeeaaW.PrintLast Go.Proofs.YtpfoefmcjbdeeaaW.PrintMore
open Go.Proofs.Ytpfoefmcjbdeeaa.PAlarmAll

/-- A row of the reference's alarms, in memory that no call on alarms writes. -/
structure R46 (w : World) (A : Option Addr) (c : Nat) (xs : List S46) : Prop where
  read : Kd.C k46 w A xs.length xs
  cap : xs.length ≤ c
  tag : xs ≠ [] → ∃ ad cur fz, A = some ad ∧ w.heap[ad.block]? = some (.cells cur 46 fz)
theorem add_block (a : Addr) (k : Nat) : (a.add k).block = a.block := by unfold Addr.add; split <;> rfl
theorem R46.move {w w' : World} {A : Option Addr} {c : Nat} {xs : List S46} (r : R46 w A c xs) (h : ∀ (k : Nat) (cur : Array Value) (fz : Nat × Nat), w.heap[k]? = some (Obj.cells cur 46 fz) → w'.heap[k]? = w.heap[k]?) : R46 w' A c xs := by
  by_cases hx : xs = []
  · subst hx
    exact ⟨⟨rfl, by simp, fun h => by simp at h⟩, r.cap, fun h => absurd rfl h⟩
  · obtain ⟨ad, cur, fz, rfl, hh⟩ := r.tag hx
    refine ⟨⟨rfl, r.read.2.1, fun hp => ?_⟩, r.cap, fun _ => ⟨ad, cur, fz, rfl, (h _ _ _ hh).trans hh⟩⟩
    obtain ⟨ad', e, hc⟩ := r.read.2.2 hp
    cases e
    refine ⟨ad, rfl, fun j p hj => ?_⟩
    obtain ⟨cs, h1, h2, h3⟩ := hc j p hj
    exact ⟨cs, h1, h2, fun i u hi => (World.cell?_of_block (by rw [add_block]; exact h _ _ _ hh)).trans (h3 i u hi)⟩
theorem R46.chg {base : Nat} {w w' : World} {A : Option Addr} {c : Nat} {xs : List S46} (r : R46 w A c xs) (x : Chg base w w') : R46 w' A c xs :=
  r.move fun k _ _ hk => x.keep k (Array.getElem?_eq_some_iff.1 hk).1 (by rw [hk]; exact ⟨by decide, by decide⟩)
theorem R46.below {w w' : World} {A : Option Addr} {c : Nat} {xs : List S46} (r : R46 w A c xs) (x : Below w.heap.size w w') : R46 w' A c xs :=
  r.move fun k _ _ hk => x.block k (Array.getElem?_eq_some_iff.1 hk).1
theorem R46.nil (w : World) (A : Option Addr) (c : Nat) : R46 w A c [] := ⟨⟨rfl, by simp, fun h => by simp at h⟩, Nat.zero_le _, fun h => absurd rfl h⟩
theorem R46.of_R {w : World} {base : Nat} {v : Value} {xs : List S46} (h : Kd.R k46 46 w base (fun _ => True) v xs) : ∃ A c, v = .slice A xs.length c ∧ R46 w A c xs := by
  obtain ⟨A, c, rfl, hl, hr⟩ := Kd.R_reads h
  refine ⟨A, c, rfl, hr, hl, fun hx => ?_⟩
  obtain ⟨ad, e, _⟩ := hr.2.2 (by rcases xs with _ | ⟨x, r⟩; · exact absurd rfl hx
                                  · simp)
  obtain ⟨inner, ho⟩ := Kd.R_own h
  obtain ⟨cur, hc⟩ := own_typed ho ad.block (by simp [Value.ownBlock, e])
  exact ⟨ad, cur, _, e, hc⟩
theorem R46.take {w : World} {A : Option Addr} {c : Nat} {xs : List S46} (r : R46 w A c xs) (m : Nat) (hm : m ≤ xs.length) : R46 w A c (xs.take m) :=
  ⟨Kd.C_take r.read hm, by have := r.cap; simp; omega, fun hx => r.tag (fun e => hx (by simp [e]))⟩
theorem R46.drop {w : World} {A : Option Addr} {c : Nat} {xs : List S46} (r : R46 w A c xs) (m : Nat) (hm : m ≤ xs.length) : R46 w (if c = m then A else A.map (·.add (m * 2))) (c - m) (xs.drop m) := by
  refine ⟨Kd.C_drop r.read hm r.cap, by have := r.cap; simp; omega, fun hx => ?_⟩
  obtain ⟨ad, cur, fz, rfl, hh⟩ := r.tag (fun e => hx (by simp [e]))
  split
  · exact ⟨ad, cur, fz, rfl, hh⟩
  · exact ⟨ad.add (m * 2), cur, fz, rfl, by rw [add_block]; exact hh⟩

theorem R46.set {w : World} {A : Option Addr} {c : Nat} {xs : List S46} (r : R46 w A c xs) {b j : Nat} {cs : Array Value} {e : TypeId} {fz : Nat × Nat} (hh : w.heap[b]? = some (.cells cs e fz)) (he : e ≠ 46) (u : Value) : R46 (w.setCell ⟨b, j, none⟩ u) A c xs :=
  r.move fun k cur _ hk => Below.heap_setCell _ _ _ _ (by rintro rfl; rw [hh] at hk; injection hk with hk; injection hk with _ hk; exact he hk)
/-- The four boxes of Do. -/
structure DoBox (w : World) (b : Nat) (A : Option Addr) (n c : Nat) (last kind at_ id : Int) : Prop where
  h0 : w.heap[b]? = some (.cells #[.slice A n c, .int .i64 last] 28 (0, 0))
  h1 : w.heap[b + 1]? = some (.cells #[.int .i64 kind, .int .i64 at_, .int .i64 id] 30 (0, 0))
  h2 : w.heap[b + 1 + 1]? = some (.cells #[.slice none 0 0, .int .i64 0] 28 (0, 0))
  h3 : w.heap[b + 1 + 1 + 1]? = some (.cells #[.int .i64 0, .bool false, .int .i64 0, .slice none 0 0] 33 (0, 0))
theorem DoBox.below {w w' : World} {b : Nat} {A : Option Addr} {n c : Nat} {last kind at_ id : Int} (x : DoBox w b A n c last kind at_ id) (h : Below w.heap.size w w') : DoBox w' b A n c last kind at_ id :=
  ⟨(h.block _ (Array.getElem?_eq_some_iff.1 x.h0).1).trans x.h0, (h.block _ (Array.getElem?_eq_some_iff.1 x.h1).1).trans x.h1, (h.block _ (Array.getElem?_eq_some_iff.1 x.h2).1).trans x.h2, (h.block _ (Array.getElem?_eq_some_iff.1 x.h3).1).trans x.h3⟩
theorem cell_of {w : World} {b : Nat} {cs : Array Value} {e : TypeId} (h : w.heap[b]? = some (.cells cs e (0, 0))) (j : Nat) : w.cell? ⟨b, j, none⟩ = cs[j]? := by simp [World.cell?, h]
theorem fz_of {w : World} {b : Nat} {cs : Array Value} {e : TypeId} (h : w.heap[b]? = some (.cells cs e (0, 0))) (j : Nat) : w.frozen? ⟨b, j, none⟩ = false := by simp [World.frozen?, h]

theorem four_blocks (w : World) (o0 o1 o2 o3 : Obj) : ((((w.alloc o0).alloc o1).alloc o2).alloc o3).heap[w.heap.size]? = some o0 ∧ ((((w.alloc o0).alloc o1).alloc o2).alloc o3).heap[w.heap.size + 1]? = some o1 ∧
    ((((w.alloc o0).alloc o1).alloc o2).alloc o3).heap[w.heap.size + 1 + 1]? = some o2 ∧ ((((w.alloc o0).alloc o1).alloc o2).alloc o3).heap[w.heap.size + 1 + 1 + 1]? = some o3 := by
  have e1 : (w.alloc o0).heap.size = w.heap.size + 1 := by simp
  have e2 : ((w.alloc o0).alloc o1).heap.size = w.heap.size + 2 := by simp
  have e3 : (((w.alloc o0).alloc o1).alloc o2).heap.size = w.heap.size + 3 := by simp
  refine ⟨?_, ?_, ?_, ?_⟩
  · rw [heap_alloc_old _ _ (by omega), heap_alloc_old _ _ (by omega), heap_alloc_old _ _ (by omega), heap_alloc_new]
  · rw [heap_alloc_old _ _ (by omega), heap_alloc_old _ _ (by omega), ← e1, heap_alloc_new]
  · rw [heap_alloc_old _ _ (by omega), ← e2, heap_alloc_new]
  · rw [← e3, heap_alloc_new]
/-- A store into a box of the call's own. -/
theorem below_box {w w1 : World} (h : Below w.heap.size w w1) (p : Addr) (hp : w.heap.size ≤ p.block) (u : Value) : Below w.heap.size w (w1.setCell p u) := h.setCell hp u

theorem DoBox.set0 {w : World} {b : Nat} {A : Option Addr} {n c : Nat} {last kind at_ id : Int} (x : DoBox w b A n c last kind at_ id) (A' : Option Addr) (n' c' : Nat) : DoBox (w.setCell ⟨b, 0, none⟩ (.slice A' n' c')) b A' n' c' last kind at_ id :=
  ⟨(heap_setCell_at x.h0 _).trans (by simp), (Below.heap_setCell _ _ _ _ (by simp)).trans x.h1, (Below.heap_setCell _ _ _ _ (by dsimp only; omega)).trans x.h2, (Below.heap_setCell _ _ _ _ (by dsimp only; omega)).trans x.h3⟩
theorem DoBox.set1 {w : World} {b : Nat} {A : Option Addr} {n c : Nat} {last kind at_ id : Int} (x : DoBox w b A n c last kind at_ id) (last' : Int) : DoBox (w.setCell ⟨b, 1, none⟩ (.int .i64 last')) b A n c last' kind at_ id :=
  ⟨(heap_setCell_at x.h0 _).trans (by simp), (Below.heap_setCell _ _ _ _ (by simp)).trans x.h1, (Below.heap_setCell _ _ _ _ (by dsimp only; omega)).trans x.h2, (Below.heap_setCell _ _ _ _ (by dsimp only; omega)).trans x.h3⟩
theorem R46.ends {w : World} {b : Nat} {A A' : Option Addr} {n c c' : Nat} {last kind at_ id : Int} {xs : List S46} (r : R46 w A' c' xs) (x : DoBox w b A n c last kind at_ id) (u0 u1 v0 v1 v2 v3 : Value) :
    R46 ((((((w.setCell ⟨b + 1 + 1, 0, none⟩ u0).setCell ⟨b + 1 + 1, 1, none⟩ u1).setCell ⟨b + 1 + 1 + 1, 0, none⟩ v0).setCell ⟨b + 1 + 1 + 1, 1, none⟩ v1).setCell ⟨b + 1 + 1 + 1, 2, none⟩ v2).setCell ⟨b + 1 + 1 + 1, 3, none⟩ v3) A' c' xs :=
  r.move fun k cur fz hk => by
    have h2 : k ≠ b + 1 + 1 := by rintro rfl; rw [x.h2] at hk; injection hk with hk; injection hk with _ hk; exact absurd hk (by decide)
    have h3 : k ≠ b + 1 + 1 + 1 := by rintro rfl; rw [x.h3] at hk; injection hk with hk; injection hk with _ hk; exact absurd hk (by decide)
    rw [Below.heap_setCell _ _ _ _ h3, Below.heap_setCell _ _ _ _ h3, Below.heap_setCell _ _ _ _ h3, Below.heap_setCell _ _ _ _ h3, Below.heap_setCell _ _ _ _ h2, Below.heap_setCell _ _ _ _ h2]
theorem R46.drew {w : World} {A : Option Addr} {c : Nat} {xs : List S46} (r : R46 w A c xs) : R46 w.drew A c xs := r.move fun _ _ _ _ => rfl
theorem DoBox.drew {w : World} {b : Nat} {A : Option Addr} {n c : Nat} {last kind at_ id : Int} (x : DoBox w b A n c last kind at_ id) : DoBox w.drew b A n c last kind at_ id := ⟨x.h0, x.h1, x.h2, x.h3⟩
theorem DoBox.drewN {w : World} {b : Nat} {A : Option Addr} {n c : Nat} {last kind at_ id : Int} (x : DoBox w b A n c last kind at_ id) (m : Nat) : DoBox (w.drewN m) b A n c last kind at_ id := ⟨x.h0, x.h1, x.h2, x.h3⟩
theorem R46.drewN {w : World} {A : Option Addr} {c : Nat} {xs : List S46} (r : R46 w A c xs) (m : Nat) : R46 (w.drewN m) A c xs := r.move fun _ _ _ _ => rfl
theorem take_end {w : World} {b : Nat} {A A' : Option Addr} {n c c' : Nat} {last kind at_ id : Int} {xs : List S46} (x : DoBox w b A n c last kind at_ id) (r : R46 w A' c' xs) (m : Nat) (A2 : Option Addr) (n2 c2 : Nat) (u0 u1 v0 v1 v2 v3 : Value) :
    R46 ((((((((w.drewN m).setCell ⟨b, 0, none⟩ (.slice A2 n2 c2)).setCell ⟨b + 1 + 1, 0, none⟩ u0).setCell ⟨b + 1 + 1, 1, none⟩ u1).setCell ⟨b + 1 + 1 + 1, 0, none⟩ v0).setCell ⟨b + 1 + 1 + 1, 1, none⟩ v1).setCell ⟨b + 1 + 1 + 1, 2, none⟩ v2).setCell ⟨b + 1 + 1 + 1, 3, none⟩ v3) A' c' xs :=
  R46.ends ((r.drewN m).set (x.drewN m).h0 (by decide) (j := 0) (.slice A2 n2 c2)) ((x.drewN m).set0 A2 n2 c2) _ _ _ _ _ _
/-- What a call gives back: the row, the number, the answer. -/
def DoRet (w : World) (e : Ending) (w' : World) (R : List S46) (last n : Int) (is : Bool) (er : Int) (l : Value) : Prop :=
  ∃ A' c', e = .returned (.tuple #[.agg #[.slice A' R.length c', .int .i64 last], .agg #[.int .i64 n, .bool is, .int .i64 er, l]]) ∧ R46 w' A' c' R ∧ Below w.heap.size w w'

set_option maxRecDepth 100000 in
set_option maxHeartbeats 2000000 in
theorem do_set_wrong (w : World) (A : Option Addr) (c : Nat) (L : List S46) (hL : R46 w A c L) (last at_ id r : Int) (hf : ∃ n, chicaneref06_Find.f n L id = some r) (hat : ¬ (0 ≤ at_ ∧ at_ ≤ 1099511627776)) :
    Calls Try.prog 6 #[.agg #[.slice A L.length c, .int .i64 last], .agg #[.int .i64 0, .int .i64 at_, .int .i64 id]] w fun e w' =>
      e = .returned (.tuple #[.agg #[.slice A L.length c, .int .i64 last], .agg #[.int .i64 0, .bool false, .int .i64 1, .slice none 0 0]]) ∧ Below w.heap.size w w' := by
  obtain ⟨nf, hf⟩ := hf
  have HL := Aside0.mk hL
  have HF := Aside0.mk hf
  clear hL hf
  have hr : chicaneref06_right.f at_ = some false := by
    unfold chicaneref06_right.f
    by_cases h0 : 0 ≤ at_
    · simp [h0]; omega
    · simp [h0]
  have HR := Aside0.mk hr
  clear hr hat
  go_enter Try.func6, Try.ntmps6
  go_wp2_with fail
  have QB := Aside0.mk (show DoBox ((((w.alloc (.cells #[.slice A L.length c, .int .i64 last] 28)).alloc (.cells #[.int .i64 0, .int .i64 at_, .int .i64 id] 30)).alloc (.cells #[.slice none 0 0, .int .i64 0] 28)).alloc (.cells #[.int .i64 0, .bool false, .int .i64 0, .slice none 0 0] 33)) w.heap.size A L.length c last 0 at_ id from
    ⟨(four_blocks w _ _ _ _).1, (four_blocks w _ _ _ _).2.1, (four_blocks w _ _ _ _).2.2.1, (four_blocks w _ _ _ _).2.2.2⟩)
  have QW := Aside0.mk (show Below w.heap.size w ((((w.alloc (.cells #[.slice A L.length c, .int .i64 last] 28)).alloc (.cells #[.int .i64 0, .int .i64 at_, .int .i64 id] 30)).alloc (.cells #[.slice none 0 0, .int .i64 0] 28)).alloc (.cells #[.int .i64 0, .bool false, .int .i64 0, .slice none 0 0] 33)) from
    below_alloc (below_alloc (below_alloc (below_alloc (Below.refl _ _) _) _) _) _)
  generalize ((((w.alloc (.cells #[.slice A L.length c, .int .i64 last] 28)).alloc (.cells #[.int .i64 0, .int .i64 at_, .int .i64 id] 30)).alloc (.cells #[.slice none 0 0, .int .i64 0] 28)).alloc (.cells #[.int .i64 0, .bool false, .int .i64 0, .slice none 0 0] 33)) = w1 at QB QW ⊢
  have HL1 := Aside0.mk (HL.out.below QW.out)
  refine (chicaneref06_Find.calls nf A c L id r w1 HL1.out.read HL1.out.cap HF.out).mono ?_
  rintro e w2 ⟨rfl, hd2⟩
  have hb2 := hd2.below
  have QB2 := Aside0.mk (QB.out.below hb2)
  have QW2 := Aside0.mk (below_then QW.out QW.out.size hb2)
  have HL2 := Aside0.mk (HL1.out.below hb2)
  clear QB QW HL1 hd2 hb2
  have x0 := cell_of QB2.out.h0 0
  have x1 := cell_of QB2.out.h0 1
  simp only [List.getElem?_toArray, List.getElem?_cons_zero, List.getElem?_cons_succ] at x0 x1
  have o0 := cell_of QB2.out.h1 0
  have o1 := cell_of QB2.out.h1 1
  have o2 := cell_of QB2.out.h1 2
  simp only [List.getElem?_toArray, List.getElem?_cons_zero, List.getElem?_cons_succ] at o0 o1 o2
  have r0 := cell_of QB2.out.h2 0
  have r1 := cell_of QB2.out.h2 1
  simp only [List.getElem?_toArray, List.getElem?_cons_zero, List.getElem?_cons_succ] at r0 r1
  have s0 := cell_of QB2.out.h3 0
  have s1 := cell_of QB2.out.h3 1
  have s2 := cell_of QB2.out.h3 2
  have s3 := cell_of QB2.out.h3 3
  simp only [List.getElem?_toArray, List.getElem?_cons_zero, List.getElem?_cons_succ] at s0 s1 s2 s3
  have fx0 := fz_of QB2.out.h0 0
  have fx1 := fz_of QB2.out.h0 1
  have fr0 := fz_of QB2.out.h2 0
  have fr1 := fz_of QB2.out.h2 1
  have fs0 := fz_of QB2.out.h3 0
  have fs1 := fz_of QB2.out.h3 1
  have fs2 := fz_of QB2.out.h3 2
  have fs3 := fz_of QB2.out.h3 3
  go_wp2_with fail
  refine (chicaneref06_right.calls at_ false w2 HR.out).mono ?_
  rintro e w3 ⟨rfl, hd3⟩
  have hb3 := hd3.below
  have QB3 := Aside0.mk (QB2.out.below hb3)
  have QW3 := Aside0.mk (below_then QW2.out QW2.out.size hb3)
  have HL3 := Aside0.mk (HL2.out.below hb3)
  clear QB2 QW2 HL2 hd3 hb3
  clear x0 x1 o0 o1 o2 r0 r1 s0 s1 s2 s3 fx0 fx1 fr0 fr1 fs0 fs1 fs2 fs3
  have x0 := cell_of QB3.out.h0 0
  have x1 := cell_of QB3.out.h0 1
  simp only [List.getElem?_toArray, List.getElem?_cons_zero, List.getElem?_cons_succ] at x0 x1
  have o0 := cell_of QB3.out.h1 0
  have o1 := cell_of QB3.out.h1 1
  have o2 := cell_of QB3.out.h1 2
  simp only [List.getElem?_toArray, List.getElem?_cons_zero, List.getElem?_cons_succ] at o0 o1 o2
  have r0 := cell_of QB3.out.h2 0
  have r1 := cell_of QB3.out.h2 1
  simp only [List.getElem?_toArray, List.getElem?_cons_zero, List.getElem?_cons_succ] at r0 r1
  have s0 := cell_of QB3.out.h3 0
  have s1 := cell_of QB3.out.h3 1
  have s2 := cell_of QB3.out.h3 2
  have s3 := cell_of QB3.out.h3 3
  simp only [List.getElem?_toArray, List.getElem?_cons_zero, List.getElem?_cons_succ] at s0 s1 s2 s3
  have fx0 := fz_of QB3.out.h0 0
  have fx1 := fz_of QB3.out.h0 1
  have fr0 := fz_of QB3.out.h2 0
  have fr1 := fz_of QB3.out.h2 1
  have fs0 := fz_of QB3.out.h3 0
  have fs1 := fz_of QB3.out.h3 1
  have fs2 := fz_of QB3.out.h3 2
  have fs3 := fz_of QB3.out.h3 3
  go_wp2_with fail
  refine bodyPost_ret (v := .tuple #[.agg #[.slice A L.length c, .int .i64 last], .agg #[.int .i64 0, .bool false, .int .i64 1, .slice none 0 0]]) (by simp [results, Try.results6, go_sem, r0, r1, s0, s1, s2, s3]) rfl ⟨rfl, ?_⟩
  repeat (with_reducible first | exact QW3.out | refine below_box ?_ _ (by dsimp only; omega) _ | refine below_drew ?_)

set_option maxRecDepth 100000 in
set_option maxHeartbeats 2000000 in
theorem do_cancel_none (w : World) (A : Option Addr) (c : Nat) (L : List S46) (hL : R46 w A c L) (last at_ id : Int) (hf : ∃ n, chicaneref06_Find.f n L id = some (-1)) :
    Calls Try.prog 6 #[.agg #[.slice A L.length c, .int .i64 last], .agg #[.int .i64 1, .int .i64 at_, .int .i64 id]] w fun e w' =>
      e = .returned (.tuple #[.agg #[.slice A L.length c, .int .i64 last], .agg #[.int .i64 0, .bool false, .int .i64 0, .slice none 0 0]]) ∧ Below w.heap.size w w' := by
  obtain ⟨nf, hf⟩ := hf
  have HL := Aside0.mk hL
  have HF := Aside0.mk hf
  clear hL hf
  go_enter Try.func6, Try.ntmps6
  go_wp2_with fail
  have QB := Aside0.mk (show DoBox ((((w.alloc (.cells #[.slice A L.length c, .int .i64 last] 28)).alloc (.cells #[.int .i64 1, .int .i64 at_, .int .i64 id] 30)).alloc (.cells #[.slice none 0 0, .int .i64 0] 28)).alloc (.cells #[.int .i64 0, .bool false, .int .i64 0, .slice none 0 0] 33)) w.heap.size A L.length c last 1 at_ id from
    ⟨(four_blocks w _ _ _ _).1, (four_blocks w _ _ _ _).2.1, (four_blocks w _ _ _ _).2.2.1, (four_blocks w _ _ _ _).2.2.2⟩)
  have QW := Aside0.mk (show Below w.heap.size w ((((w.alloc (.cells #[.slice A L.length c, .int .i64 last] 28)).alloc (.cells #[.int .i64 1, .int .i64 at_, .int .i64 id] 30)).alloc (.cells #[.slice none 0 0, .int .i64 0] 28)).alloc (.cells #[.int .i64 0, .bool false, .int .i64 0, .slice none 0 0] 33)) from
    below_alloc (below_alloc (below_alloc (below_alloc (Below.refl _ _) _) _) _) _)
  generalize ((((w.alloc (.cells #[.slice A L.length c, .int .i64 last] 28)).alloc (.cells #[.int .i64 1, .int .i64 at_, .int .i64 id] 30)).alloc (.cells #[.slice none 0 0, .int .i64 0] 28)).alloc (.cells #[.int .i64 0, .bool false, .int .i64 0, .slice none 0 0] 33)) = w1 at QB QW ⊢
  have HL1 := Aside0.mk (HL.out.below QW.out)
  refine (chicaneref06_Find.calls nf A c L id (-1) w1 HL1.out.read HL1.out.cap HF.out).mono ?_
  rintro e w2 ⟨rfl, hd2⟩
  have hb2 := hd2.below
  have QB2 := Aside0.mk (QB.out.below hb2)
  have QW2 := Aside0.mk (below_then QW.out QW.out.size hb2)
  have HL2 := Aside0.mk (HL1.out.below hb2)
  clear QB QW HL1 hd2 hb2
  have x0 := cell_of QB2.out.h0 0
  have x1 := cell_of QB2.out.h0 1
  simp only [List.getElem?_toArray, List.getElem?_cons_zero, List.getElem?_cons_succ] at x0 x1
  have o0 := cell_of QB2.out.h1 0
  have o1 := cell_of QB2.out.h1 1
  have o2 := cell_of QB2.out.h1 2
  simp only [List.getElem?_toArray, List.getElem?_cons_zero, List.getElem?_cons_succ] at o0 o1 o2
  have r0 := cell_of QB2.out.h2 0
  have r1 := cell_of QB2.out.h2 1
  simp only [List.getElem?_toArray, List.getElem?_cons_zero, List.getElem?_cons_succ] at r0 r1
  have s0 := cell_of QB2.out.h3 0
  have s1 := cell_of QB2.out.h3 1
  have s2 := cell_of QB2.out.h3 2
  have s3 := cell_of QB2.out.h3 3
  simp only [List.getElem?_toArray, List.getElem?_cons_zero, List.getElem?_cons_succ] at s0 s1 s2 s3
  have fx0 := fz_of QB2.out.h0 0
  have fx1 := fz_of QB2.out.h0 1
  have fr0 := fz_of QB2.out.h2 0
  have fr1 := fz_of QB2.out.h2 1
  have fs0 := fz_of QB2.out.h3 0
  have fs1 := fz_of QB2.out.h3 1
  have fs2 := fz_of QB2.out.h3 2
  have fs3 := fz_of QB2.out.h3 3
  go_wp2_with fail
  refine bodyPost_ret (v := .tuple #[.agg #[.slice A L.length c, .int .i64 last], .agg #[.int .i64 0, .bool false, .int .i64 0, .slice none 0 0]]) (by simp [results, Try.results6, go_sem, r0, r1, s0, s1, s2, s3]) rfl ⟨rfl, ?_⟩
  repeat (with_reducible first | exact QW2.out | refine below_box ?_ _ (by dsimp only; omega) _ | refine below_drew ?_)

set_option maxRecDepth 100000 in
set_option maxHeartbeats 2000000 in
theorem do_move_none (w : World) (A : Option Addr) (c : Nat) (L : List S46) (hL : R46 w A c L) (last at_ id : Int) (hf : ∃ n, chicaneref06_Find.f n L id = some (-1)) :
    Calls Try.prog 6 #[.agg #[.slice A L.length c, .int .i64 last], .agg #[.int .i64 2, .int .i64 at_, .int .i64 id]] w fun e w' =>
      e = .returned (.tuple #[.agg #[.slice A L.length c, .int .i64 last], .agg #[.int .i64 0, .bool false, .int .i64 0, .slice none 0 0]]) ∧ Below w.heap.size w w' := by
  obtain ⟨nf, hf⟩ := hf
  have HL := Aside0.mk hL
  have HF := Aside0.mk hf
  clear hL hf
  go_enter Try.func6, Try.ntmps6
  go_wp2_with fail
  have QB := Aside0.mk (show DoBox ((((w.alloc (.cells #[.slice A L.length c, .int .i64 last] 28)).alloc (.cells #[.int .i64 2, .int .i64 at_, .int .i64 id] 30)).alloc (.cells #[.slice none 0 0, .int .i64 0] 28)).alloc (.cells #[.int .i64 0, .bool false, .int .i64 0, .slice none 0 0] 33)) w.heap.size A L.length c last 2 at_ id from
    ⟨(four_blocks w _ _ _ _).1, (four_blocks w _ _ _ _).2.1, (four_blocks w _ _ _ _).2.2.1, (four_blocks w _ _ _ _).2.2.2⟩)
  have QW := Aside0.mk (show Below w.heap.size w ((((w.alloc (.cells #[.slice A L.length c, .int .i64 last] 28)).alloc (.cells #[.int .i64 2, .int .i64 at_, .int .i64 id] 30)).alloc (.cells #[.slice none 0 0, .int .i64 0] 28)).alloc (.cells #[.int .i64 0, .bool false, .int .i64 0, .slice none 0 0] 33)) from
    below_alloc (below_alloc (below_alloc (below_alloc (Below.refl _ _) _) _) _) _)
  generalize ((((w.alloc (.cells #[.slice A L.length c, .int .i64 last] 28)).alloc (.cells #[.int .i64 2, .int .i64 at_, .int .i64 id] 30)).alloc (.cells #[.slice none 0 0, .int .i64 0] 28)).alloc (.cells #[.int .i64 0, .bool false, .int .i64 0, .slice none 0 0] 33)) = w1 at QB QW ⊢
  have HL1 := Aside0.mk (HL.out.below QW.out)
  refine (chicaneref06_Find.calls nf A c L id (-1) w1 HL1.out.read HL1.out.cap HF.out).mono ?_
  rintro e w2 ⟨rfl, hd2⟩
  have hb2 := hd2.below
  have QB2 := Aside0.mk (QB.out.below hb2)
  have QW2 := Aside0.mk (below_then QW.out QW.out.size hb2)
  have HL2 := Aside0.mk (HL1.out.below hb2)
  clear QB QW HL1 hd2 hb2
  have x0 := cell_of QB2.out.h0 0
  have x1 := cell_of QB2.out.h0 1
  simp only [List.getElem?_toArray, List.getElem?_cons_zero, List.getElem?_cons_succ] at x0 x1
  have o0 := cell_of QB2.out.h1 0
  have o1 := cell_of QB2.out.h1 1
  have o2 := cell_of QB2.out.h1 2
  simp only [List.getElem?_toArray, List.getElem?_cons_zero, List.getElem?_cons_succ] at o0 o1 o2
  have r0 := cell_of QB2.out.h2 0
  have r1 := cell_of QB2.out.h2 1
  simp only [List.getElem?_toArray, List.getElem?_cons_zero, List.getElem?_cons_succ] at r0 r1
  have s0 := cell_of QB2.out.h3 0
  have s1 := cell_of QB2.out.h3 1
  have s2 := cell_of QB2.out.h3 2
  have s3 := cell_of QB2.out.h3 3
  simp only [List.getElem?_toArray, List.getElem?_cons_zero, List.getElem?_cons_succ] at s0 s1 s2 s3
  have fx0 := fz_of QB2.out.h0 0
  have fx1 := fz_of QB2.out.h0 1
  have fr0 := fz_of QB2.out.h2 0
  have fr1 := fz_of QB2.out.h2 1
  have fs0 := fz_of QB2.out.h3 0
  have fs1 := fz_of QB2.out.h3 1
  have fs2 := fz_of QB2.out.h3 2
  have fs3 := fz_of QB2.out.h3 3
  go_wp2_with fail
  refine bodyPost_ret (v := .tuple #[.agg #[.slice A L.length c, .int .i64 last], .agg #[.int .i64 0, .bool false, .int .i64 0, .slice none 0 0]]) (by simp [results, Try.results6, go_sem, r0, r1, s0, s1, s2, s3]) rfl ⟨rfl, ?_⟩
  repeat (with_reducible first | exact QW2.out | refine below_box ?_ _ (by dsimp only; omega) _ | refine below_drew ?_)

set_option maxRecDepth 100000 in
set_option maxHeartbeats 2000000 in
theorem do_move_wrong (w : World) (A : Option Addr) (c : Nat) (L : List S46) (hL : R46 w A c L) (last at_ id r : Int) (hf : ∃ n, chicaneref06_Find.f n L id = some r) (hr0 : 0 ≤ r) (hat : ¬ (0 ≤ at_ ∧ at_ ≤ 1099511627776)) :
    Calls Try.prog 6 #[.agg #[.slice A L.length c, .int .i64 last], .agg #[.int .i64 2, .int .i64 at_, .int .i64 id]] w fun e w' =>
      e = .returned (.tuple #[.agg #[.slice A L.length c, .int .i64 last], .agg #[.int .i64 0, .bool false, .int .i64 0, .slice none 0 0]]) ∧ Below w.heap.size w w' := by
  obtain ⟨nf, hf⟩ := hf
  have HL := Aside0.mk hL
  have HF := Aside0.mk hf
  clear hL hf
  have hr : chicaneref06_right.f at_ = some false := by
    unfold chicaneref06_right.f
    by_cases h0 : 0 ≤ at_
    · simp [h0]; omega
    · simp [h0]
  have HR := Aside0.mk hr
  clear hr hat
  go_enter Try.func6, Try.ntmps6
  go_wp2_with fail
  have QB := Aside0.mk (show DoBox ((((w.alloc (.cells #[.slice A L.length c, .int .i64 last] 28)).alloc (.cells #[.int .i64 2, .int .i64 at_, .int .i64 id] 30)).alloc (.cells #[.slice none 0 0, .int .i64 0] 28)).alloc (.cells #[.int .i64 0, .bool false, .int .i64 0, .slice none 0 0] 33)) w.heap.size A L.length c last 2 at_ id from
    ⟨(four_blocks w _ _ _ _).1, (four_blocks w _ _ _ _).2.1, (four_blocks w _ _ _ _).2.2.1, (four_blocks w _ _ _ _).2.2.2⟩)
  have QW := Aside0.mk (show Below w.heap.size w ((((w.alloc (.cells #[.slice A L.length c, .int .i64 last] 28)).alloc (.cells #[.int .i64 2, .int .i64 at_, .int .i64 id] 30)).alloc (.cells #[.slice none 0 0, .int .i64 0] 28)).alloc (.cells #[.int .i64 0, .bool false, .int .i64 0, .slice none 0 0] 33)) from
    below_alloc (below_alloc (below_alloc (below_alloc (Below.refl _ _) _) _) _) _)
  generalize ((((w.alloc (.cells #[.slice A L.length c, .int .i64 last] 28)).alloc (.cells #[.int .i64 2, .int .i64 at_, .int .i64 id] 30)).alloc (.cells #[.slice none 0 0, .int .i64 0] 28)).alloc (.cells #[.int .i64 0, .bool false, .int .i64 0, .slice none 0 0] 33)) = w1 at QB QW ⊢
  have HL1 := Aside0.mk (HL.out.below QW.out)
  refine (chicaneref06_Find.calls nf A c L id r w1 HL1.out.read HL1.out.cap HF.out).mono ?_
  rintro e w2 ⟨rfl, hd2⟩
  have hb2 := hd2.below
  have QB2 := Aside0.mk (QB.out.below hb2)
  have QW2 := Aside0.mk (below_then QW.out QW.out.size hb2)
  have HL2 := Aside0.mk (HL1.out.below hb2)
  clear QB QW HL1 hd2 hb2
  have x0 := cell_of QB2.out.h0 0
  have x1 := cell_of QB2.out.h0 1
  simp only [List.getElem?_toArray, List.getElem?_cons_zero, List.getElem?_cons_succ] at x0 x1
  have o0 := cell_of QB2.out.h1 0
  have o1 := cell_of QB2.out.h1 1
  have o2 := cell_of QB2.out.h1 2
  simp only [List.getElem?_toArray, List.getElem?_cons_zero, List.getElem?_cons_succ] at o0 o1 o2
  have r0 := cell_of QB2.out.h2 0
  have r1 := cell_of QB2.out.h2 1
  simp only [List.getElem?_toArray, List.getElem?_cons_zero, List.getElem?_cons_succ] at r0 r1
  have s0 := cell_of QB2.out.h3 0
  have s1 := cell_of QB2.out.h3 1
  have s2 := cell_of QB2.out.h3 2
  have s3 := cell_of QB2.out.h3 3
  simp only [List.getElem?_toArray, List.getElem?_cons_zero, List.getElem?_cons_succ] at s0 s1 s2 s3
  have fx0 := fz_of QB2.out.h0 0
  have fx1 := fz_of QB2.out.h0 1
  have fr0 := fz_of QB2.out.h2 0
  have fr1 := fz_of QB2.out.h2 1
  have fs0 := fz_of QB2.out.h3 0
  have fs1 := fz_of QB2.out.h3 1
  have fs2 := fz_of QB2.out.h3 2
  have fs3 := fz_of QB2.out.h3 3
  go_wp2_with fail
  refine (chicaneref06_right.calls at_ false w2 HR.out).mono ?_
  rintro e w3 ⟨rfl, hd3⟩
  have hb3 := hd3.below
  have QB3 := Aside0.mk (QB2.out.below hb3)
  have QW3 := Aside0.mk (below_then QW2.out QW2.out.size hb3)
  have HL3 := Aside0.mk (HL2.out.below hb3)
  clear QB2 QW2 HL2 hd3 hb3
  clear x0 x1 o0 o1 o2 r0 r1 s0 s1 s2 s3 fx0 fx1 fr0 fr1 fs0 fs1 fs2 fs3
  have x0 := cell_of QB3.out.h0 0
  have x1 := cell_of QB3.out.h0 1
  simp only [List.getElem?_toArray, List.getElem?_cons_zero, List.getElem?_cons_succ] at x0 x1
  have o0 := cell_of QB3.out.h1 0
  have o1 := cell_of QB3.out.h1 1
  have o2 := cell_of QB3.out.h1 2
  simp only [List.getElem?_toArray, List.getElem?_cons_zero, List.getElem?_cons_succ] at o0 o1 o2
  have r0 := cell_of QB3.out.h2 0
  have r1 := cell_of QB3.out.h2 1
  simp only [List.getElem?_toArray, List.getElem?_cons_zero, List.getElem?_cons_succ] at r0 r1
  have s0 := cell_of QB3.out.h3 0
  have s1 := cell_of QB3.out.h3 1
  have s2 := cell_of QB3.out.h3 2
  have s3 := cell_of QB3.out.h3 3
  simp only [List.getElem?_toArray, List.getElem?_cons_zero, List.getElem?_cons_succ] at s0 s1 s2 s3
  have fx0 := fz_of QB3.out.h0 0
  have fx1 := fz_of QB3.out.h0 1
  have fr0 := fz_of QB3.out.h2 0
  have fr1 := fz_of QB3.out.h2 1
  have fs0 := fz_of QB3.out.h3 0
  have fs1 := fz_of QB3.out.h3 1
  have fs2 := fz_of QB3.out.h3 2
  have fs3 := fz_of QB3.out.h3 3
  go_wp2_with fail
  refine bodyPost_ret (v := .tuple #[.agg #[.slice A L.length c, .int .i64 last], .agg #[.int .i64 0, .bool false, .int .i64 0, .slice none 0 0]]) (by simp [results, Try.results6, go_sem, r0, r1, s0, s1, s2, s3]) rfl ⟨rfl, ?_⟩
  repeat (with_reducible first | exact QW3.out | refine below_box ?_ _ (by dsimp only; omega) _ | refine below_drew ?_)

set_option maxRecDepth 100000 in
set_option maxHeartbeats 2000000 in
theorem do_when_none (w : World) (A : Option Addr) (c : Nat) (L : List S46) (hL : R46 w A c L) (last at_ id : Int) (hf : ∃ n, chicaneref06_Find.f n L id = some (-1)) :
    Calls Try.prog 6 #[.agg #[.slice A L.length c, .int .i64 last], .agg #[.int .i64 3, .int .i64 at_, .int .i64 id]] w fun e w' =>
      e = .returned (.tuple #[.agg #[.slice A L.length c, .int .i64 last], .agg #[.int .i64 0, .bool false, .int .i64 0, .slice none 0 0]]) ∧ Below w.heap.size w w' := by
  obtain ⟨nf, hf⟩ := hf
  have HL := Aside0.mk hL
  have HF := Aside0.mk hf
  clear hL hf
  go_enter Try.func6, Try.ntmps6
  go_wp2_with fail
  have QB := Aside0.mk (show DoBox ((((w.alloc (.cells #[.slice A L.length c, .int .i64 last] 28)).alloc (.cells #[.int .i64 3, .int .i64 at_, .int .i64 id] 30)).alloc (.cells #[.slice none 0 0, .int .i64 0] 28)).alloc (.cells #[.int .i64 0, .bool false, .int .i64 0, .slice none 0 0] 33)) w.heap.size A L.length c last 3 at_ id from
    ⟨(four_blocks w _ _ _ _).1, (four_blocks w _ _ _ _).2.1, (four_blocks w _ _ _ _).2.2.1, (four_blocks w _ _ _ _).2.2.2⟩)
  have QW := Aside0.mk (show Below w.heap.size w ((((w.alloc (.cells #[.slice A L.length c, .int .i64 last] 28)).alloc (.cells #[.int .i64 3, .int .i64 at_, .int .i64 id] 30)).alloc (.cells #[.slice none 0 0, .int .i64 0] 28)).alloc (.cells #[.int .i64 0, .bool false, .int .i64 0, .slice none 0 0] 33)) from
    below_alloc (below_alloc (below_alloc (below_alloc (Below.refl _ _) _) _) _) _)
  generalize ((((w.alloc (.cells #[.slice A L.length c, .int .i64 last] 28)).alloc (.cells #[.int .i64 3, .int .i64 at_, .int .i64 id] 30)).alloc (.cells #[.slice none 0 0, .int .i64 0] 28)).alloc (.cells #[.int .i64 0, .bool false, .int .i64 0, .slice none 0 0] 33)) = w1 at QB QW ⊢
  have HL1 := Aside0.mk (HL.out.below QW.out)
  refine (chicaneref06_Find.calls nf A c L id (-1) w1 HL1.out.read HL1.out.cap HF.out).mono ?_
  rintro e w2 ⟨rfl, hd2⟩
  have hb2 := hd2.below
  have QB2 := Aside0.mk (QB.out.below hb2)
  have QW2 := Aside0.mk (below_then QW.out QW.out.size hb2)
  have HL2 := Aside0.mk (HL1.out.below hb2)
  clear QB QW HL1 hd2 hb2
  have x0 := cell_of QB2.out.h0 0
  have x1 := cell_of QB2.out.h0 1
  simp only [List.getElem?_toArray, List.getElem?_cons_zero, List.getElem?_cons_succ] at x0 x1
  have o0 := cell_of QB2.out.h1 0
  have o1 := cell_of QB2.out.h1 1
  have o2 := cell_of QB2.out.h1 2
  simp only [List.getElem?_toArray, List.getElem?_cons_zero, List.getElem?_cons_succ] at o0 o1 o2
  have r0 := cell_of QB2.out.h2 0
  have r1 := cell_of QB2.out.h2 1
  simp only [List.getElem?_toArray, List.getElem?_cons_zero, List.getElem?_cons_succ] at r0 r1
  have s0 := cell_of QB2.out.h3 0
  have s1 := cell_of QB2.out.h3 1
  have s2 := cell_of QB2.out.h3 2
  have s3 := cell_of QB2.out.h3 3
  simp only [List.getElem?_toArray, List.getElem?_cons_zero, List.getElem?_cons_succ] at s0 s1 s2 s3
  have fx0 := fz_of QB2.out.h0 0
  have fx1 := fz_of QB2.out.h0 1
  have fr0 := fz_of QB2.out.h2 0
  have fr1 := fz_of QB2.out.h2 1
  have fs0 := fz_of QB2.out.h3 0
  have fs1 := fz_of QB2.out.h3 1
  have fs2 := fz_of QB2.out.h3 2
  have fs3 := fz_of QB2.out.h3 3
  go_wp2_with fail
  refine bodyPost_ret (v := .tuple #[.agg #[.slice A L.length c, .int .i64 last], .agg #[.int .i64 0, .bool false, .int .i64 0, .slice none 0 0]]) (by simp [results, Try.results6, go_sem, r0, r1, s0, s1, s2, s3]) rfl ⟨rfl, ?_⟩
  repeat (with_reducible first | exact QW2.out | refine below_box ?_ _ (by dsimp only; omega) _ | refine below_drew ?_)

set_option maxRecDepth 100000 in
set_option maxHeartbeats 2000000 in
theorem do_set (w : World) (A : Option Addr) (c : Nat) (L : List S46) (hL : R46 w A c L) (last at_ id r : Int) (hf : ∃ n, chicaneref06_Find.f n L id = some r) (hat : 0 ≤ at_ ∧ at_ ≤ 1099511627776) (hlen : L.length < 4096) (hla : 0 ≤ last ∧ last < 1000000) (R : List S46) (hp : ∃ n, chicaneref06_put.f n L at_ (last + 1) = some R) :
    Calls Try.prog 6 #[.agg #[.slice A L.length c, .int .i64 last], .agg #[.int .i64 0, .int .i64 at_, .int .i64 id]] w fun e w' =>
      DoRet w e w' R (last + 1) (last + 1) false 0 (.slice none 0 0) := by
  obtain ⟨nf, hf⟩ := hf
  have HL := Aside0.mk hL
  have HF := Aside0.mk hf
  clear hL hf
  have hr : chicaneref06_right.f at_ = some true := by
    unfold chicaneref06_right.f
    simp [hat.1, hat.2]
  have HR := Aside0.mk hr
  clear hr
  obtain ⟨np, hp⟩ := hp
  have HP := Aside0.mk hp
  clear hp
  have hw64 : wrap64 (last + 1) = last + 1 := by unfold wrap64; omega
  have hwi : IntKind.i64.wrap (last + 1) = last + 1 := by rw [i64_w]; exact hw64
  have HL6 := Aside0.mk hlen
  have hlen2 : ¬ ((4096 : Int) ≤ (L.length : Int)) := by omega
  clear hlen
  go_enter Try.func6, Try.ntmps6
  go_wp2_with fail
  have QB := Aside0.mk (show DoBox ((((w.alloc (.cells #[.slice A L.length c, .int .i64 last] 28)).alloc (.cells #[.int .i64 0, .int .i64 at_, .int .i64 id] 30)).alloc (.cells #[.slice none 0 0, .int .i64 0] 28)).alloc (.cells #[.int .i64 0, .bool false, .int .i64 0, .slice none 0 0] 33)) w.heap.size A L.length c last 0 at_ id from
    ⟨(four_blocks w _ _ _ _).1, (four_blocks w _ _ _ _).2.1, (four_blocks w _ _ _ _).2.2.1, (four_blocks w _ _ _ _).2.2.2⟩)
  have QW := Aside0.mk (show Below w.heap.size w ((((w.alloc (.cells #[.slice A L.length c, .int .i64 last] 28)).alloc (.cells #[.int .i64 0, .int .i64 at_, .int .i64 id] 30)).alloc (.cells #[.slice none 0 0, .int .i64 0] 28)).alloc (.cells #[.int .i64 0, .bool false, .int .i64 0, .slice none 0 0] 33)) from
    below_alloc (below_alloc (below_alloc (below_alloc (Below.refl _ _) _) _) _) _)
  generalize ((((w.alloc (.cells #[.slice A L.length c, .int .i64 last] 28)).alloc (.cells #[.int .i64 0, .int .i64 at_, .int .i64 id] 30)).alloc (.cells #[.slice none 0 0, .int .i64 0] 28)).alloc (.cells #[.int .i64 0, .bool false, .int .i64 0, .slice none 0 0] 33)) = w1 at QB QW ⊢
  have HL1 := Aside0.mk (HL.out.below QW.out)
  refine (chicaneref06_Find.calls nf A c L id r w1 HL1.out.read HL1.out.cap HF.out).mono ?_
  rintro e w2 ⟨rfl, hd2⟩
  have hb2 := hd2.below
  have QB2 := Aside0.mk (QB.out.below hb2)
  have QW2 := Aside0.mk (below_then QW.out QW.out.size hb2)
  have HL2 := Aside0.mk (HL1.out.below hb2)
  clear QB QW HL1 hd2 hb2
  have x0 := cell_of QB2.out.h0 0
  have x1 := cell_of QB2.out.h0 1
  simp only [List.getElem?_toArray, List.getElem?_cons_zero, List.getElem?_cons_succ] at x0 x1
  have o0 := cell_of QB2.out.h1 0
  have o1 := cell_of QB2.out.h1 1
  have o2 := cell_of QB2.out.h1 2
  simp only [List.getElem?_toArray, List.getElem?_cons_zero, List.getElem?_cons_succ] at o0 o1 o2
  have r0 := cell_of QB2.out.h2 0
  have r1 := cell_of QB2.out.h2 1
  simp only [List.getElem?_toArray, List.getElem?_cons_zero, List.getElem?_cons_succ] at r0 r1
  have s0 := cell_of QB2.out.h3 0
  have s1 := cell_of QB2.out.h3 1
  have s2 := cell_of QB2.out.h3 2
  have s3 := cell_of QB2.out.h3 3
  simp only [List.getElem?_toArray, List.getElem?_cons_zero, List.getElem?_cons_succ] at s0 s1 s2 s3
  have fx0 := fz_of QB2.out.h0 0
  have fx1 := fz_of QB2.out.h0 1
  have fr0 := fz_of QB2.out.h2 0
  have fr1 := fz_of QB2.out.h2 1
  have fs0 := fz_of QB2.out.h3 0
  have fs1 := fz_of QB2.out.h3 1
  have fs2 := fz_of QB2.out.h3 2
  have fs3 := fz_of QB2.out.h3 3
  go_wp2_with fail
  refine (chicaneref06_right.calls at_ true w2 HR.out).mono ?_
  rintro e w3 ⟨rfl, hd3⟩
  have hb3 := hd3.below
  have QB3 := Aside0.mk (QB2.out.below hb3)
  have QW3 := Aside0.mk (below_then QW2.out QW2.out.size hb3)
  have HL3 := Aside0.mk (HL2.out.below hb3)
  clear QB2 QW2 HL2 hd3 hb3
  clear x0 x1 o0 o1 o2 r0 r1 s0 s1 s2 s3 fx0 fx1 fr0 fr1 fs0 fs1 fs2 fs3
  have x0 := cell_of QB3.out.h0 0
  have x1 := cell_of QB3.out.h0 1
  simp only [List.getElem?_toArray, List.getElem?_cons_zero, List.getElem?_cons_succ] at x0 x1
  have o0 := cell_of QB3.out.h1 0
  have o1 := cell_of QB3.out.h1 1
  have o2 := cell_of QB3.out.h1 2
  simp only [List.getElem?_toArray, List.getElem?_cons_zero, List.getElem?_cons_succ] at o0 o1 o2
  have r0 := cell_of QB3.out.h2 0
  have r1 := cell_of QB3.out.h2 1
  simp only [List.getElem?_toArray, List.getElem?_cons_zero, List.getElem?_cons_succ] at r0 r1
  have s0 := cell_of QB3.out.h3 0
  have s1 := cell_of QB3.out.h3 1
  have s2 := cell_of QB3.out.h3 2
  have s3 := cell_of QB3.out.h3 3
  simp only [List.getElem?_toArray, List.getElem?_cons_zero, List.getElem?_cons_succ] at s0 s1 s2 s3
  have fx0 := fz_of QB3.out.h0 0
  have fx1 := fz_of QB3.out.h0 1
  have fr0 := fz_of QB3.out.h2 0
  have fr1 := fz_of QB3.out.h2 1
  have fs0 := fz_of QB3.out.h3 0
  have fs1 := fz_of QB3.out.h3 1
  have fs2 := fz_of QB3.out.h3 2
  have fs3 := fz_of QB3.out.h3 3
  have QB4 := Aside0.mk (QB3.out.set1 (last + 1))
  have QW4 := Aside0.mk (below_box QW3.out ⟨w.heap.size, 1, none⟩ (Nat.le_refl _) (.int .i64 (last + 1)))
  have HL4 := Aside0.mk (HL3.out.set QB3.out.h0 (by decide) (j := 1) (.int .i64 (last + 1)))
  go_wp2_with fail
  refine (chicaneref06_put.calls np A c L at_ (last + 1) R _ HL4.out.read HL4.out.cap HP.out).mono ?_
  rintro e w5 ⟨v5, rfl, hr5, hb5⟩
  obtain ⟨A5, c5, rfl, hx5⟩ := R46.of_R hr5
  have HR5 := Aside0.mk hx5
  clear hx5
  clear hr5
  have QB5 := Aside0.mk (QB4.out.below hb5)
  have QW5 := Aside0.mk (below_then QW4.out QW4.out.size hb5)
  clear QB3 QW3 HL3 QB4 QW4 HL4 hb5
  clear x0 x1 o0 o1 o2 r0 r1 s0 s1 s2 s3 fx0 fx1 fr0 fr1 fs0 fs1 fs2 fs3
  have x0 := cell_of QB5.out.h0 0
  have x1 := cell_of QB5.out.h0 1
  simp only [List.getElem?_toArray, List.getElem?_cons_zero, List.getElem?_cons_succ] at x0 x1
  have o0 := cell_of QB5.out.h1 0
  have o1 := cell_of QB5.out.h1 1
  have o2 := cell_of QB5.out.h1 2
  simp only [List.getElem?_toArray, List.getElem?_cons_zero, List.getElem?_cons_succ] at o0 o1 o2
  have r0 := cell_of QB5.out.h2 0
  have r1 := cell_of QB5.out.h2 1
  simp only [List.getElem?_toArray, List.getElem?_cons_zero, List.getElem?_cons_succ] at r0 r1
  have s0 := cell_of QB5.out.h3 0
  have s1 := cell_of QB5.out.h3 1
  have s2 := cell_of QB5.out.h3 2
  have s3 := cell_of QB5.out.h3 3
  simp only [List.getElem?_toArray, List.getElem?_cons_zero, List.getElem?_cons_succ] at s0 s1 s2 s3
  have fx0 := fz_of QB5.out.h0 0
  have fx1 := fz_of QB5.out.h0 1
  have fr0 := fz_of QB5.out.h2 0
  have fr1 := fz_of QB5.out.h2 1
  have fs0 := fz_of QB5.out.h3 0
  have fs1 := fz_of QB5.out.h3 1
  have fs2 := fz_of QB5.out.h3 2
  have fs3 := fz_of QB5.out.h3 3
  have QB6 := Aside0.mk (QB5.out.set0 A5 R.length c5)
  have QW6 := Aside0.mk (below_box QW5.out ⟨w.heap.size, 0, none⟩ (Nat.le_refl _) (.slice A5 R.length c5))
  have HR6 := Aside0.mk (HR5.out.set QB5.out.h0 (by decide) (j := 0) (.slice A5 R.length c5))
  go_wp2_with fail
  clear x0 x1 o0 o1 o2 r0 r1 s0 s1 s2 s3 fx0 fx1 fr0 fr1 fs0 fs1 fs2 fs3
  generalize (w5.setCell ⟨w.heap.size, 0, none⟩ (.slice A5 R.length c5)) = w6 at QB6 QW6 HR6 ⊢
  clear QB5 QW5 HR5
  have x0 := cell_of QB6.out.h0 0
  have x1 := cell_of QB6.out.h0 1
  simp only [List.getElem?_toArray, List.getElem?_cons_zero, List.getElem?_cons_succ] at x0 x1
  have o0 := cell_of QB6.out.h1 0
  have o1 := cell_of QB6.out.h1 1
  have o2 := cell_of QB6.out.h1 2
  simp only [List.getElem?_toArray, List.getElem?_cons_zero, List.getElem?_cons_succ] at o0 o1 o2
  have r0 := cell_of QB6.out.h2 0
  have r1 := cell_of QB6.out.h2 1
  simp only [List.getElem?_toArray, List.getElem?_cons_zero, List.getElem?_cons_succ] at r0 r1
  have s0 := cell_of QB6.out.h3 0
  have s1 := cell_of QB6.out.h3 1
  have s2 := cell_of QB6.out.h3 2
  have s3 := cell_of QB6.out.h3 3
  simp only [List.getElem?_toArray, List.getElem?_cons_zero, List.getElem?_cons_succ] at s0 s1 s2 s3
  have fx0 := fz_of QB6.out.h0 0
  have fx1 := fz_of QB6.out.h0 1
  have fr0 := fz_of QB6.out.h2 0
  have fr1 := fz_of QB6.out.h2 1
  have fs0 := fz_of QB6.out.h3 0
  have fs1 := fz_of QB6.out.h3 1
  have fs2 := fz_of QB6.out.h3 2
  have fs3 := fz_of QB6.out.h3 3
  go_region
  all_goals (go_wp2_with fail)
  refine bodyPost_ret (v := .tuple #[.agg #[.slice A5 R.length c5, .int .i64 (last + 1)], .agg #[.int .i64 (last + 1), .bool false, .int .i64 0, .slice none 0 0]]) (by simp [results, Try.results6, go_sem, r0, r1, s0, s1, s2, s3]) rfl ⟨A5, c5, rfl, (HR6.out.ends QB6.out _ _ _ _ _ _).drew, ?_⟩
  repeat (with_reducible first | exact QW6.out | refine below_box ?_ _ (by dsimp only; omega) _ | refine below_drew ?_)

set_option maxRecDepth 100000 in
set_option maxHeartbeats 2000000 in
theorem do_cancel_some (w : World) (A : Option Addr) (c : Nat) (L : List S46) (hL : R46 w A c L) (last at_ id r : Int) (hf : ∃ n, chicaneref06_Find.f n L id = some r) (hr0 : 0 ≤ r) (R : List S46) (hp : chicaneref06_without.f L r = some R) :
    Calls Try.prog 6 #[.agg #[.slice A L.length c, .int .i64 last], .agg #[.int .i64 1, .int .i64 at_, .int .i64 id]] w fun e w' =>
      DoRet w e w' R last 0 true 0 (.slice none 0 0) := by
  obtain ⟨nf, hf⟩ := hf
  have HL := Aside0.mk hL
  have HF := Aside0.mk hf
  clear hL hf
  have HP := Aside0.mk hp
  clear hp
  go_enter Try.func6, Try.ntmps6
  go_wp2_with fail
  have QB := Aside0.mk (show DoBox ((((w.alloc (.cells #[.slice A L.length c, .int .i64 last] 28)).alloc (.cells #[.int .i64 1, .int .i64 at_, .int .i64 id] 30)).alloc (.cells #[.slice none 0 0, .int .i64 0] 28)).alloc (.cells #[.int .i64 0, .bool false, .int .i64 0, .slice none 0 0] 33)) w.heap.size A L.length c last 1 at_ id from
    ⟨(four_blocks w _ _ _ _).1, (four_blocks w _ _ _ _).2.1, (four_blocks w _ _ _ _).2.2.1, (four_blocks w _ _ _ _).2.2.2⟩)
  have QW := Aside0.mk (show Below w.heap.size w ((((w.alloc (.cells #[.slice A L.length c, .int .i64 last] 28)).alloc (.cells #[.int .i64 1, .int .i64 at_, .int .i64 id] 30)).alloc (.cells #[.slice none 0 0, .int .i64 0] 28)).alloc (.cells #[.int .i64 0, .bool false, .int .i64 0, .slice none 0 0] 33)) from
    below_alloc (below_alloc (below_alloc (below_alloc (Below.refl _ _) _) _) _) _)
  generalize ((((w.alloc (.cells #[.slice A L.length c, .int .i64 last] 28)).alloc (.cells #[.int .i64 1, .int .i64 at_, .int .i64 id] 30)).alloc (.cells #[.slice none 0 0, .int .i64 0] 28)).alloc (.cells #[.int .i64 0, .bool false, .int .i64 0, .slice none 0 0] 33)) = w1 at QB QW ⊢
  have HL1 := Aside0.mk (HL.out.below QW.out)
  refine (chicaneref06_Find.calls nf A c L id r w1 HL1.out.read HL1.out.cap HF.out).mono ?_
  rintro e w2 ⟨rfl, hd2⟩
  have hb2 := hd2.below
  have QB2 := Aside0.mk (QB.out.below hb2)
  have QW2 := Aside0.mk (below_then QW.out QW.out.size hb2)
  have HL2 := Aside0.mk (HL1.out.below hb2)
  clear QB QW HL1 hd2 hb2
  have x0 := cell_of QB2.out.h0 0
  have x1 := cell_of QB2.out.h0 1
  simp only [List.getElem?_toArray, List.getElem?_cons_zero, List.getElem?_cons_succ] at x0 x1
  have o0 := cell_of QB2.out.h1 0
  have o1 := cell_of QB2.out.h1 1
  have o2 := cell_of QB2.out.h1 2
  simp only [List.getElem?_toArray, List.getElem?_cons_zero, List.getElem?_cons_succ] at o0 o1 o2
  have r0 := cell_of QB2.out.h2 0
  have r1 := cell_of QB2.out.h2 1
  simp only [List.getElem?_toArray, List.getElem?_cons_zero, List.getElem?_cons_succ] at r0 r1
  have s0 := cell_of QB2.out.h3 0
  have s1 := cell_of QB2.out.h3 1
  have s2 := cell_of QB2.out.h3 2
  have s3 := cell_of QB2.out.h3 3
  simp only [List.getElem?_toArray, List.getElem?_cons_zero, List.getElem?_cons_succ] at s0 s1 s2 s3
  have fx0 := fz_of QB2.out.h0 0
  have fx1 := fz_of QB2.out.h0 1
  have fr0 := fz_of QB2.out.h2 0
  have fr1 := fz_of QB2.out.h2 1
  have fs0 := fz_of QB2.out.h3 0
  have fs1 := fz_of QB2.out.h3 1
  have fs2 := fz_of QB2.out.h3 2
  have fs3 := fz_of QB2.out.h3 3
  go_wp2_with fail
  refine (chicaneref06_without.calls A c L r R _ HL2.out.read HL2.out.cap HP.out).mono ?_
  rintro e w5 ⟨v5, rfl, hr5, hb5⟩
  obtain ⟨A5, c5, rfl, hx5⟩ := R46.of_R hr5
  have HR5 := Aside0.mk hx5
  clear hx5
  clear hr5
  have QB5 := Aside0.mk (QB2.out.below hb5)
  have QW5 := Aside0.mk (below_then QW2.out QW2.out.size hb5)
  clear QB2 QW2 HL2 hb5
  clear x0 x1 o0 o1 o2 r0 r1 s0 s1 s2 s3 fx0 fx1 fr0 fr1 fs0 fs1 fs2 fs3
  have x0 := cell_of QB5.out.h0 0
  have x1 := cell_of QB5.out.h0 1
  simp only [List.getElem?_toArray, List.getElem?_cons_zero, List.getElem?_cons_succ] at x0 x1
  have o0 := cell_of QB5.out.h1 0
  have o1 := cell_of QB5.out.h1 1
  have o2 := cell_of QB5.out.h1 2
  simp only [List.getElem?_toArray, List.getElem?_cons_zero, List.getElem?_cons_succ] at o0 o1 o2
  have r0 := cell_of QB5.out.h2 0
  have r1 := cell_of QB5.out.h2 1
  simp only [List.getElem?_toArray, List.getElem?_cons_zero, List.getElem?_cons_succ] at r0 r1
  have s0 := cell_of QB5.out.h3 0
  have s1 := cell_of QB5.out.h3 1
  have s2 := cell_of QB5.out.h3 2
  have s3 := cell_of QB5.out.h3 3
  simp only [List.getElem?_toArray, List.getElem?_cons_zero, List.getElem?_cons_succ] at s0 s1 s2 s3
  have fx0 := fz_of QB5.out.h0 0
  have fx1 := fz_of QB5.out.h0 1
  have fr0 := fz_of QB5.out.h2 0
  have fr1 := fz_of QB5.out.h2 1
  have fs0 := fz_of QB5.out.h3 0
  have fs1 := fz_of QB5.out.h3 1
  have fs2 := fz_of QB5.out.h3 2
  have fs3 := fz_of QB5.out.h3 3
  have QB6 := Aside0.mk (QB5.out.set0 A5 R.length c5)
  have QW6 := Aside0.mk (below_box QW5.out ⟨w.heap.size, 0, none⟩ (Nat.le_refl _) (.slice A5 R.length c5))
  have HR6 := Aside0.mk (HR5.out.set QB5.out.h0 (by decide) (j := 0) (.slice A5 R.length c5))
  go_wp2_with fail
  refine bodyPost_ret (v := .tuple #[.agg #[.slice A5 R.length c5, .int .i64 last], .agg #[.int .i64 0, .bool true, .int .i64 0, .slice none 0 0]]) (by simp [results, Try.results6, go_sem, r0, r1, s0, s1, s2, s3]) rfl ⟨A5, c5, rfl, (HR6.out.ends QB6.out _ _ _ _ _ _), ?_⟩
  repeat (with_reducible first | exact QW6.out | refine below_box ?_ _ (by dsimp only; omega) _ | refine below_drew ?_)

set_option maxRecDepth 100000 in
set_option maxHeartbeats 2000000 in
theorem do_move_some (w : World) (A : Option Addr) (c : Nat) (L : List S46) (hL : R46 w A c L) (last at_ id r : Int) (hf : ∃ n, chicaneref06_Find.f n L id = some r) (hr0 : 0 ≤ r) (hat : 0 ≤ at_ ∧ at_ ≤ 1099511627776) (M R : List S46) (hw : chicaneref06_without.f L r = some M) (hp : ∃ n, chicaneref06_put.f n M at_ id = some R) :
    Calls Try.prog 6 #[.agg #[.slice A L.length c, .int .i64 last], .agg #[.int .i64 2, .int .i64 at_, .int .i64 id]] w fun e w' =>
      DoRet w e w' R last 0 true 0 (.slice none 0 0) := by
  obtain ⟨nf, hf⟩ := hf
  have HL := Aside0.mk hL
  have HF := Aside0.mk hf
  clear hL hf
  have hr : chicaneref06_right.f at_ = some true := by
    unfold chicaneref06_right.f
    simp [hat.1, hat.2]
  have HR := Aside0.mk hr
  clear hr
  obtain ⟨np, hp⟩ := hp
  have HP := Aside0.mk hp
  have HO := Aside0.mk hw
  clear hp hw
  go_enter Try.func6, Try.ntmps6
  go_wp2_with fail
  have QB := Aside0.mk (show DoBox ((((w.alloc (.cells #[.slice A L.length c, .int .i64 last] 28)).alloc (.cells #[.int .i64 2, .int .i64 at_, .int .i64 id] 30)).alloc (.cells #[.slice none 0 0, .int .i64 0] 28)).alloc (.cells #[.int .i64 0, .bool false, .int .i64 0, .slice none 0 0] 33)) w.heap.size A L.length c last 2 at_ id from
    ⟨(four_blocks w _ _ _ _).1, (four_blocks w _ _ _ _).2.1, (four_blocks w _ _ _ _).2.2.1, (four_blocks w _ _ _ _).2.2.2⟩)
  have QW := Aside0.mk (show Below w.heap.size w ((((w.alloc (.cells #[.slice A L.length c, .int .i64 last] 28)).alloc (.cells #[.int .i64 2, .int .i64 at_, .int .i64 id] 30)).alloc (.cells #[.slice none 0 0, .int .i64 0] 28)).alloc (.cells #[.int .i64 0, .bool false, .int .i64 0, .slice none 0 0] 33)) from
    below_alloc (below_alloc (below_alloc (below_alloc (Below.refl _ _) _) _) _) _)
  generalize ((((w.alloc (.cells #[.slice A L.length c, .int .i64 last] 28)).alloc (.cells #[.int .i64 2, .int .i64 at_, .int .i64 id] 30)).alloc (.cells #[.slice none 0 0, .int .i64 0] 28)).alloc (.cells #[.int .i64 0, .bool false, .int .i64 0, .slice none 0 0] 33)) = w1 at QB QW ⊢
  have HL1 := Aside0.mk (HL.out.below QW.out)
  refine (chicaneref06_Find.calls nf A c L id r w1 HL1.out.read HL1.out.cap HF.out).mono ?_
  rintro e w2 ⟨rfl, hd2⟩
  have hb2 := hd2.below
  have QB2 := Aside0.mk (QB.out.below hb2)
  have QW2 := Aside0.mk (below_then QW.out QW.out.size hb2)
  have HL2 := Aside0.mk (HL1.out.below hb2)
  clear QB QW HL1 hd2 hb2
  have x0 := cell_of QB2.out.h0 0
  have x1 := cell_of QB2.out.h0 1
  simp only [List.getElem?_toArray, List.getElem?_cons_zero, List.getElem?_cons_succ] at x0 x1
  have o0 := cell_of QB2.out.h1 0
  have o1 := cell_of QB2.out.h1 1
  have o2 := cell_of QB2.out.h1 2
  simp only [List.getElem?_toArray, List.getElem?_cons_zero, List.getElem?_cons_succ] at o0 o1 o2
  have r0 := cell_of QB2.out.h2 0
  have r1 := cell_of QB2.out.h2 1
  simp only [List.getElem?_toArray, List.getElem?_cons_zero, List.getElem?_cons_succ] at r0 r1
  have s0 := cell_of QB2.out.h3 0
  have s1 := cell_of QB2.out.h3 1
  have s2 := cell_of QB2.out.h3 2
  have s3 := cell_of QB2.out.h3 3
  simp only [List.getElem?_toArray, List.getElem?_cons_zero, List.getElem?_cons_succ] at s0 s1 s2 s3
  have fx0 := fz_of QB2.out.h0 0
  have fx1 := fz_of QB2.out.h0 1
  have fr0 := fz_of QB2.out.h2 0
  have fr1 := fz_of QB2.out.h2 1
  have fs0 := fz_of QB2.out.h3 0
  have fs1 := fz_of QB2.out.h3 1
  have fs2 := fz_of QB2.out.h3 2
  have fs3 := fz_of QB2.out.h3 3
  go_wp2_with fail
  refine (chicaneref06_right.calls at_ true w2 HR.out).mono ?_
  rintro e w3 ⟨rfl, hd3⟩
  have hb3 := hd3.below
  have QB3 := Aside0.mk (QB2.out.below hb3)
  have QW3 := Aside0.mk (below_then QW2.out QW2.out.size hb3)
  have HL3 := Aside0.mk (HL2.out.below hb3)
  clear QB2 QW2 HL2 hd3 hb3
  clear x0 x1 o0 o1 o2 r0 r1 s0 s1 s2 s3 fx0 fx1 fr0 fr1 fs0 fs1 fs2 fs3
  have x0 := cell_of QB3.out.h0 0
  have x1 := cell_of QB3.out.h0 1
  simp only [List.getElem?_toArray, List.getElem?_cons_zero, List.getElem?_cons_succ] at x0 x1
  have o0 := cell_of QB3.out.h1 0
  have o1 := cell_of QB3.out.h1 1
  have o2 := cell_of QB3.out.h1 2
  simp only [List.getElem?_toArray, List.getElem?_cons_zero, List.getElem?_cons_succ] at o0 o1 o2
  have r0 := cell_of QB3.out.h2 0
  have r1 := cell_of QB3.out.h2 1
  simp only [List.getElem?_toArray, List.getElem?_cons_zero, List.getElem?_cons_succ] at r0 r1
  have s0 := cell_of QB3.out.h3 0
  have s1 := cell_of QB3.out.h3 1
  have s2 := cell_of QB3.out.h3 2
  have s3 := cell_of QB3.out.h3 3
  simp only [List.getElem?_toArray, List.getElem?_cons_zero, List.getElem?_cons_succ] at s0 s1 s2 s3
  have fx0 := fz_of QB3.out.h0 0
  have fx1 := fz_of QB3.out.h0 1
  have fr0 := fz_of QB3.out.h2 0
  have fr1 := fz_of QB3.out.h2 1
  have fs0 := fz_of QB3.out.h3 0
  have fs1 := fz_of QB3.out.h3 1
  have fs2 := fz_of QB3.out.h3 2
  have fs3 := fz_of QB3.out.h3 3
  have HL4 := Aside0.mk HL3.out.drew
  have QB4 := Aside0.mk (QB3.out.drew)
  have QW4 := Aside0.mk (below_drew QW3.out)
  clear HL3 QB3 QW3
  go_wp2_with fail
  go_region_with
    (first
     | (go_at_call 20; refine (chicaneref06_without.calls A c L r M w3.drew HL4.out.read HL4.out.cap HO.out).mono ?_
        rintro e w5 ⟨v5, rfl, hr5, hb5⟩
        obtain ⟨A5, c5, rfl, hx5⟩ := R46.of_R hr5
        have HR5 := Aside0.mk hx5
        clear hx5 hr5
        have QB5 := Aside0.mk (QB4.out.below hb5)
        have QW5 := Aside0.mk (below_then QW4.out QW4.out.size hb5)
        have p1 := cell_of QB5.out.h1 1
        have p2 := cell_of QB5.out.h1 2
        simp only [List.getElem?_toArray, List.getElem?_cons_zero, List.getElem?_cons_succ] at p1 p2)
     | (go_at_call 19; refine (chicaneref06_put.calls np A5 c5 M at_ id R w5 HR5.out.read HR5.out.cap HP.out).mono ?_
        rintro e w6 ⟨v6, rfl, hr6, hb6⟩
        obtain ⟨A6, c6, rfl, hx6⟩ := R46.of_R hr6
        have HR6 := Aside0.mk hx6
        clear hx6 hr6
        have QB6 := Aside0.mk (QB5.out.below hb6)
        have QW6 := Aside0.mk (below_then QW5.out QW5.out.size hb6)
        have q1 := cell_of QB6.out.h1 1
        have q2 := cell_of QB6.out.h1 2
        simp only [List.getElem?_toArray, List.getElem?_cons_zero, List.getElem?_cons_succ] at q1 q2
        have y0 := cell_of QB6.out.h0 0
        simp only [List.getElem?_toArray, List.getElem?_cons_zero] at y0
        have fy0 := fz_of QB6.out.h0 0))
  all_goals (
    have QB7 := Aside0.mk (QB6.out.set0 A6 R.length c6)
    have QW7 := Aside0.mk (below_box QW6.out ⟨w.heap.size, 0, none⟩ (Nat.le_refl _) (.slice A6 R.length c6))
    have HR7 := Aside0.mk (HR6.out.set QB6.out.h0 (by decide) (j := 0) (.slice A6 R.length c6))
    clear x0 x1 o0 o1 o2 r0 r1 s0 s1 s2 s3 fx0 fx1 fr0 fr1 fs0 fs1 fs2 fs3
    clear p1 p2 q1 q2 y0 fy0 QB5 QW5 HR5 HL4 QB4 QW4 hb5 hb6
    generalize (w6.setCell ⟨w.heap.size, 0, none⟩ (.slice A6 R.length c6)) = w7 at QB7 QW7 HR7 ⊢
    clear QB6 QW6 HR6
    have x0 := cell_of QB7.out.h0 0
    have x1 := cell_of QB7.out.h0 1
    simp only [List.getElem?_toArray, List.getElem?_cons_zero, List.getElem?_cons_succ] at x0 x1
    have o0 := cell_of QB7.out.h1 0
    have o1 := cell_of QB7.out.h1 1
    have o2 := cell_of QB7.out.h1 2
    simp only [List.getElem?_toArray, List.getElem?_cons_zero, List.getElem?_cons_succ] at o0 o1 o2
    have r0 := cell_of QB7.out.h2 0
    have r1 := cell_of QB7.out.h2 1
    simp only [List.getElem?_toArray, List.getElem?_cons_zero, List.getElem?_cons_succ] at r0 r1
    have s0 := cell_of QB7.out.h3 0
    have s1 := cell_of QB7.out.h3 1
    have s2 := cell_of QB7.out.h3 2
    have s3 := cell_of QB7.out.h3 3
    simp only [List.getElem?_toArray, List.getElem?_cons_zero, List.getElem?_cons_succ] at s0 s1 s2 s3
    have fx0 := fz_of QB7.out.h0 0
    have fx1 := fz_of QB7.out.h0 1
    have fr0 := fz_of QB7.out.h2 0
    have fr1 := fz_of QB7.out.h2 1
    have fs0 := fz_of QB7.out.h3 0
    have fs1 := fz_of QB7.out.h3 1
    have fs2 := fz_of QB7.out.h3 2
    have fs3 := fz_of QB7.out.h3 3
    go_wp2_with fail
    refine bodyPost_ret (v := .tuple #[.agg #[.slice A6 R.length c6, .int .i64 last], .agg #[.int .i64 0, .bool true, .int .i64 0, .slice none 0 0]]) (by simp [results, Try.results6, go_sem, r0, r1, s0, s1, s2, s3]) rfl ⟨A6, c6, rfl, (HR7.out.ends QB7.out _ _ _ _ _ _), ?_⟩
    repeat (with_reducible first | exact QW7.out | refine below_box ?_ _ (by dsimp only; omega) _ | refine below_drew ?_)
  )

set_option maxRecDepth 100000 in
set_option maxHeartbeats 2000000 in
theorem do_when_some (w : World) (A : Option Addr) (c : Nat) (L : List S46) (hL : R46 w A c L) (last at_ id r : Int) (hf : ∃ n, chicaneref06_Find.f n L id = some r) (hr0 : 0 ≤ r) (hr1 : r < (L.length : Int)) :
    Calls Try.prog 6 #[.agg #[.slice A L.length c, .int .i64 last], .agg #[.int .i64 3, .int .i64 at_, .int .i64 id]] w fun e w' =>
      DoRet w e w' L last (rd_T46 L r).f0 true 0 (.slice none 0 0) := by
  obtain ⟨nf, hf⟩ := hf
  have HL := Aside0.mk hL
  have HF := Aside0.mk hf
  clear hL hf
  go_enter Try.func6, Try.ntmps6
  go_wp2_with fail
  have QB := Aside0.mk (show DoBox ((((w.alloc (.cells #[.slice A L.length c, .int .i64 last] 28)).alloc (.cells #[.int .i64 3, .int .i64 at_, .int .i64 id] 30)).alloc (.cells #[.slice none 0 0, .int .i64 0] 28)).alloc (.cells #[.int .i64 0, .bool false, .int .i64 0, .slice none 0 0] 33)) w.heap.size A L.length c last 3 at_ id from
    ⟨(four_blocks w _ _ _ _).1, (four_blocks w _ _ _ _).2.1, (four_blocks w _ _ _ _).2.2.1, (four_blocks w _ _ _ _).2.2.2⟩)
  have QW := Aside0.mk (show Below w.heap.size w ((((w.alloc (.cells #[.slice A L.length c, .int .i64 last] 28)).alloc (.cells #[.int .i64 3, .int .i64 at_, .int .i64 id] 30)).alloc (.cells #[.slice none 0 0, .int .i64 0] 28)).alloc (.cells #[.int .i64 0, .bool false, .int .i64 0, .slice none 0 0] 33)) from
    below_alloc (below_alloc (below_alloc (below_alloc (Below.refl _ _) _) _) _) _)
  generalize ((((w.alloc (.cells #[.slice A L.length c, .int .i64 last] 28)).alloc (.cells #[.int .i64 3, .int .i64 at_, .int .i64 id] 30)).alloc (.cells #[.slice none 0 0, .int .i64 0] 28)).alloc (.cells #[.int .i64 0, .bool false, .int .i64 0, .slice none 0 0] 33)) = w1 at QB QW ⊢
  have HL1 := Aside0.mk (HL.out.below QW.out)
  refine (chicaneref06_Find.calls nf A c L id r w1 HL1.out.read HL1.out.cap HF.out).mono ?_
  rintro e w2 ⟨rfl, hd2⟩
  have hb2 := hd2.below
  have QB2 := Aside0.mk (QB.out.below hb2)
  have QW2 := Aside0.mk (below_then QW.out QW.out.size hb2)
  have HL2 := Aside0.mk (HL1.out.below hb2)
  clear QB QW HL1 hd2 hb2
  have x0 := cell_of QB2.out.h0 0
  have x1 := cell_of QB2.out.h0 1
  simp only [List.getElem?_toArray, List.getElem?_cons_zero, List.getElem?_cons_succ] at x0 x1
  have o0 := cell_of QB2.out.h1 0
  have o1 := cell_of QB2.out.h1 1
  have o2 := cell_of QB2.out.h1 2
  simp only [List.getElem?_toArray, List.getElem?_cons_zero, List.getElem?_cons_succ] at o0 o1 o2
  have r0 := cell_of QB2.out.h2 0
  have r1 := cell_of QB2.out.h2 1
  simp only [List.getElem?_toArray, List.getElem?_cons_zero, List.getElem?_cons_succ] at r0 r1
  have s0 := cell_of QB2.out.h3 0
  have s1 := cell_of QB2.out.h3 1
  have s2 := cell_of QB2.out.h3 2
  have s3 := cell_of QB2.out.h3 3
  simp only [List.getElem?_toArray, List.getElem?_cons_zero, List.getElem?_cons_succ] at s0 s1 s2 s3
  have fx0 := fz_of QB2.out.h0 0
  have fx1 := fz_of QB2.out.h0 1
  have fr0 := fz_of QB2.out.h2 0
  have fr1 := fz_of QB2.out.h2 1
  have fs0 := fz_of QB2.out.h3 0
  have fs1 := fz_of QB2.out.h3 1
  have fs2 := fz_of QB2.out.h3 2
  have fs3 := fz_of QB2.out.h3 3
  obtain ⟨ad, ea, y0, y1⟩ := at_T46 HL2.out.read r hr0 hr1
  cases ea
  go_wp2_with fail
  have hbk : ad.block ≠ w.heap.size + 1 + 1 := by
    obtain ⟨ad', cur, fz, e1, hh⟩ := HL2.out.tag (by intro e; rw [e] at hr1; simp at hr1; omega)
    cases e1
    intro e
    rw [e, QB2.out.h2] at hh
    injection hh with hh; injection hh with _ hh; exact absurd hh (by decide)
  have z0 : ∀ u v : Value, ((w2.setCell ⟨w.heap.size + 1 + 1, 0, none⟩ u).setCell ⟨w.heap.size + 1 + 1, 1, none⟩ v).cell? (ad.add (r.toNat * 2)) = some (.int .i64 (rd_T46 L r).f0) := fun u v => by
    rw [World.cell?_setCell_far _ _ _ _ (by rw [add_block]; exact fun e => hbk e.symm), World.cell?_setCell_far _ _ _ _ (by rw [add_block]; exact fun e => hbk e.symm)]; exact y0
  clear o0 o1 o2 y1 hbk
  go_region
  all_goals (go_wp2_with fail)
  refine bodyPost_ret (v := .tuple #[.agg #[.slice (some ad) L.length c, .int .i64 last], .agg #[.int .i64 (rd_T46 L r).f0, .bool true, .int .i64 0, .slice none 0 0]]) (by simp [results, Try.results6, go_sem, r0, r1, s0, s1, s2, s3]) rfl ⟨(some ad), c, rfl, (HL2.out.ends QB2.out _ _ _ _ _ _).drew, ?_⟩
  repeat (with_reducible first | exact QW2.out | refine below_box ?_ _ (by dsimp only; omega) _ | refine below_drew ?_)

set_option maxRecDepth 100000 in
set_option maxHeartbeats 2000000 in
theorem do_take (w : World) (A : Option Addr) (c : Nat) (L : List S46) (hL : R46 w A c L) (last at_ id r : Int) (hf : ∃ n, chicaneref06_Find.f n L id = some r) (k : Nat) (hbig : L.length < 1000000) (hk : k ≤ L.length) (hall : ∀ j : Nat, j < k → (rd_T46 L j).f0 ≤ at_) (hstop : k < L.length → at_ < (rd_T46 L k).f0) :
    Calls Try.prog 6 #[.agg #[.slice A L.length c, .int .i64 last], .agg #[.int .i64 4, .int .i64 at_, .int .i64 id]] w fun e w' =>
      DoRet w e w' (L.drop k) last 0 false 0 (.slice A (L.take k).length c) ∧ R46 w' A c (L.take k) := by
  obtain ⟨nf, hf⟩ := hf
  obtain ⟨i1, hi1, hz1, hs1, hb1⟩ := info_parts info46
  clear hz1 hb1
  have hcut1 := cut_to (P := Try.prog) 26 46 .i64 Try.underlying26 hi1 A L.length c (k : Int) (Int.natCast_nonneg k) (by omega) hL.cap
  have hcut2 := cut_from (P := Try.prog) 26 46 .i64 Try.underlying26 hi1 2 hs1 A L.length c (k : Int) (Int.natCast_nonneg k) (by omega)
  simp only [Int.toNat_natCast] at hcut1 hcut2
  obtain ⟨A2, hA2⟩ : ∃ A2, A2 = (if c = k then A else A.map (·.add (k * 2))) := ⟨_, rfl⟩
  obtain ⟨c2, hc2⟩ : ∃ c2, c2 = c - k := ⟨_, rfl⟩
  obtain ⟨R, hR⟩ : ∃ R, R = L.drop k := ⟨_, rfl⟩
  obtain ⟨T, hT⟩ : ∃ T, T = L.take k := ⟨_, rfl⟩
  have hRl : L.length - k = R.length := by rw [hR]; simp
  have hTl : k = T.length := by rw [hT]; simp; omega
  rw [← hA2, ← hc2, hRl] at hcut2
  have HA2 := Aside0.mk hA2
  have HC2 := Aside0.mk hc2
  have HRE := Aside0.mk hR
  have HTE := Aside0.mk hT
  have HTL := Aside0.mk hTl
  have HALL := Aside0.mk hall
  have HSTOP := Aside0.mk hstop
  have HK := Aside0.mk hk
  clear hi1 hs1 hA2 hc2 hR hT hRl hTl hall hstop hk
  have HL := Aside0.mk hL
  have HF := Aside0.mk hf
  clear hL hf
  have HBIG := Aside0.mk hbig
  go_enter Try.func6, Try.ntmps6
  go_wp2_with fail
  have QB := Aside0.mk (show DoBox ((((w.alloc (.cells #[.slice A L.length c, .int .i64 last] 28)).alloc (.cells #[.int .i64 4, .int .i64 at_, .int .i64 id] 30)).alloc (.cells #[.slice none 0 0, .int .i64 0] 28)).alloc (.cells #[.int .i64 0, .bool false, .int .i64 0, .slice none 0 0] 33)) w.heap.size A L.length c last 4 at_ id from
    ⟨(four_blocks w _ _ _ _).1, (four_blocks w _ _ _ _).2.1, (four_blocks w _ _ _ _).2.2.1, (four_blocks w _ _ _ _).2.2.2⟩)
  have QW := Aside0.mk (show Below w.heap.size w ((((w.alloc (.cells #[.slice A L.length c, .int .i64 last] 28)).alloc (.cells #[.int .i64 4, .int .i64 at_, .int .i64 id] 30)).alloc (.cells #[.slice none 0 0, .int .i64 0] 28)).alloc (.cells #[.int .i64 0, .bool false, .int .i64 0, .slice none 0 0] 33)) from
    below_alloc (below_alloc (below_alloc (below_alloc (Below.refl _ _) _) _) _) _)
  generalize ((((w.alloc (.cells #[.slice A L.length c, .int .i64 last] 28)).alloc (.cells #[.int .i64 4, .int .i64 at_, .int .i64 id] 30)).alloc (.cells #[.slice none 0 0, .int .i64 0] 28)).alloc (.cells #[.int .i64 0, .bool false, .int .i64 0, .slice none 0 0] 33)) = w1 at QB QW ⊢
  have HL1 := Aside0.mk (HL.out.below QW.out)
  refine (chicaneref06_Find.calls nf A c L id r w1 HL1.out.read HL1.out.cap HF.out).mono ?_
  rintro e w2 ⟨rfl, hd2⟩
  have hb2 := hd2.below
  have QB2 := Aside0.mk (QB.out.below hb2)
  have QW2 := Aside0.mk (below_then QW.out QW.out.size hb2)
  have HL2 := Aside0.mk (HL1.out.below hb2)
  clear QB QW HL1 hd2 hb2
  have x0 := cell_of QB2.out.h0 0
  have x1 := cell_of QB2.out.h0 1
  simp only [List.getElem?_toArray, List.getElem?_cons_zero, List.getElem?_cons_succ] at x0 x1
  have o0 := cell_of QB2.out.h1 0
  have o1 := cell_of QB2.out.h1 1
  have o2 := cell_of QB2.out.h1 2
  simp only [List.getElem?_toArray, List.getElem?_cons_zero, List.getElem?_cons_succ] at o0 o1 o2
  have r0 := cell_of QB2.out.h2 0
  have r1 := cell_of QB2.out.h2 1
  simp only [List.getElem?_toArray, List.getElem?_cons_zero, List.getElem?_cons_succ] at r0 r1
  have s0 := cell_of QB2.out.h3 0
  have s1 := cell_of QB2.out.h3 1
  have s2 := cell_of QB2.out.h3 2
  have s3 := cell_of QB2.out.h3 3
  simp only [List.getElem?_toArray, List.getElem?_cons_zero, List.getElem?_cons_succ] at s0 s1 s2 s3
  have fx0 := fz_of QB2.out.h0 0
  have fx1 := fz_of QB2.out.h0 1
  have fr0 := fz_of QB2.out.h2 0
  have fr1 := fz_of QB2.out.h2 1
  have fs0 := fz_of QB2.out.h3 0
  have fs1 := fz_of QB2.out.h3 1
  have fs2 := fz_of QB2.out.h3 2
  have fs3 := fz_of QB2.out.h3 3
  clear x1 o2 r0 r1 s0 s1 s2 s3 fx0 fx1 fr0 fr1 fs0 fs1 fs2 fs3
  go_wp2_with fail
  clear x0 o1 o0
  go_loopg [7] k (fun n v wr => ∃ j : Nat, v = .int .i64 j ∧ Aside0 (n + j = k) ∧ Aside0 (DoBox wr w.heap.size A L.length c last 4 at_ id) ∧ Aside0 (Below w.heap.size w wr) ∧ Aside0 (R46 wr A c L))
  case atStart => exact ⟨0, by go_num, ⟨by omega⟩, QB2, QW2, HL2⟩
  case round =>
    obtain ⟨j, rfl, hj, QB3, QW3, HL3⟩ := hrel
    clear QB2 QW2 HL2
    have x0 := cell_of QB3.out.h0 0
    have x1 := cell_of QB3.out.h0 1
    simp only [List.getElem?_toArray, List.getElem?_cons_zero, List.getElem?_cons_succ] at x0 x1
    have o0 := cell_of QB3.out.h1 0
    have o1 := cell_of QB3.out.h1 1
    have o2 := cell_of QB3.out.h1 2
    simp only [List.getElem?_toArray, List.getElem?_cons_zero, List.getElem?_cons_succ] at o0 o1 o2
    have r0 := cell_of QB3.out.h2 0
    have r1 := cell_of QB3.out.h2 1
    simp only [List.getElem?_toArray, List.getElem?_cons_zero, List.getElem?_cons_succ] at r0 r1
    have s0 := cell_of QB3.out.h3 0
    have s1 := cell_of QB3.out.h3 1
    have s2 := cell_of QB3.out.h3 2
    have s3 := cell_of QB3.out.h3 3
    simp only [List.getElem?_toArray, List.getElem?_cons_zero, List.getElem?_cons_succ] at s0 s1 s2 s3
    have fx0 := fz_of QB3.out.h0 0
    have fx1 := fz_of QB3.out.h0 1
    have fr0 := fz_of QB3.out.h2 0
    have fr1 := fz_of QB3.out.h2 1
    have fs0 := fz_of QB3.out.h3 0
    have fs1 := fz_of QB3.out.h3 1
    have fs2 := fz_of QB3.out.h3 2
    have fs3 := fz_of QB3.out.h3 3
    by_cases hlt : j < k
    · have hjl : (j : Int) < (L.length : Int) := by have := HK.out; omega
      obtain ⟨ad, ea, y0, y1⟩ := at_T46 HL3.out.read j (Int.natCast_nonneg j) hjl
      cases ea
      have hle := HALL.out j hlt
      have hjn : j < L.length := by omega
      simp only [Int.toNat_natCast] at y0
      have hd2 : decide ((rd_T46 L j).f0 ≤ at_) = true := decide_eq_true hle
      have hw : IntKind.i64.wrap ((j : Int) + 1) = ((j + 1 : Nat) : Int) := by rw [i64_w]; unfold wrap64; have := HK.out; have := HBIG.out; omega
      clear y1 hcut1 hcut2 x1 o0 o2 r0 r1 s0 s1 s2 s3 fx0 fx1 fr0 fr1 fs0 fs1 fs2 fs3
      go_wp2_with fail
      go_quiet (fail)
      clear x0 o1 y0
      go_wp2_with fail
      go_roundg (gk - 1)
      case measure => have := hj.out; omega
      case rel => exact ⟨j + 1, by go_num, ⟨by have := hj.out; omega⟩, ⟨QB3.out.drewN _⟩, ⟨pw_below_drewN QW3.out _⟩, ⟨HL3.out.drewN _⟩⟩
    · obtain rfl : j = k := by have := hj.out; omega
      by_cases hkl : j < L.length
      · have hjl : (j : Int) < (L.length : Int) := by omega
        obtain ⟨ad, ea, y0, y1⟩ := at_T46 HL3.out.read j (Int.natCast_nonneg j) hjl
        cases ea
        have hgt := HSTOP.out hkl
        simp only [Int.toNat_natCast] at y0
        have hd2 : decide ((rd_T46 L j).f0 ≤ at_) = false := decide_eq_false (by omega)
        clear y1 hgt
        go_wp2_with fail
        go_quiet (fail)
        go_wp2_with fail
        refine bodyPost_ret (v := .tuple #[.agg #[.slice A2 R.length c2, .int .i64 last], .agg #[.int .i64 0, .bool false, .int .i64 0, .slice (some ad) j c]]) (by simp [results, Try.results6, go_sem, r0, r1, s0, s1, s2, s3]) rfl ?_
        rw [← HRE.out, ← HTE.out, ← HTL.out]
        refine ⟨⟨A2, c2, rfl, take_end QB3.out (by have := HL3.out.drop j HK.out; rw [← HA2.out, ← HC2.out, ← HRE.out] at this; exact this) _ _ _ _ _ _ _ _ _ _, ?_⟩, take_end QB3.out (by have := HL3.out.take j HK.out; rw [← HTE.out] at this; exact this) _ _ _ _ _ _ _ _ _ _⟩
        repeat (with_reducible first | exact QW3.out | refine below_box ?_ _ (by dsimp only; omega) _ | refine pw_below_drewN ?_ _)
      · go_wp2_with fail
        go_quiet (fail)
        go_wp2_with fail
        refine bodyPost_ret (v := .tuple #[.agg #[.slice A2 R.length c2, .int .i64 last], .agg #[.int .i64 0, .bool false, .int .i64 0, .slice A j c]]) (by simp [results, Try.results6, go_sem, r0, r1, s0, s1, s2, s3]) rfl ?_
        rw [← HRE.out, ← HTE.out, ← HTL.out]
        refine ⟨⟨A2, c2, rfl, take_end QB3.out (by have := HL3.out.drop j HK.out; rw [← HA2.out, ← HC2.out, ← HRE.out] at this; exact this) _ _ _ _ _ _ _ _ _ _, ?_⟩, take_end QB3.out (by have := HL3.out.take j HK.out; rw [← HTE.out] at this; exact this) _ _ _ _ _ _ _ _ _ _⟩
        repeat (with_reducible first | exact QW3.out | refine below_box ?_ _ (by dsimp only; omega) _ | refine pw_below_drewN ?_ _)

set_option maxRecDepth 100000 in
set_option maxHeartbeats 2000000 in
theorem do_other (w : World) (A : Option Addr) (c : Nat) (L : List S46) (hL : R46 w A c L) (last at_ id r kind : Int) (hf : ∃ n, chicaneref06_Find.f n L id = some r) (h0 : kind ≠ 0) (h1 : kind ≠ 1) (h2 : kind ≠ 2) (h3 : kind ≠ 3) (h4 : kind ≠ 4) :
    Calls Try.prog 6 #[.agg #[.slice A L.length c, .int .i64 last], .agg #[.int .i64 kind, .int .i64 at_, .int .i64 id]] w fun e w' =>
      e = .returned (.tuple #[.agg #[.slice A L.length c, .int .i64 last], .agg #[.int .i64 0, .bool false, .int .i64 0, .slice none 0 0]]) ∧ Below w.heap.size w w' := by
  obtain ⟨nf, hf⟩ := hf
  have HL := Aside0.mk hL
  have HF := Aside0.mk hf
  clear hL hf
  have k0 : (kind == 0) = false := beq_eq_false_iff_ne.mpr h0
  have k1 : (kind == 1) = false := beq_eq_false_iff_ne.mpr h1
  have k2 : (kind == 2) = false := beq_eq_false_iff_ne.mpr h2
  have k3 : (kind == 3) = false := beq_eq_false_iff_ne.mpr h3
  have k4 : (kind == 4) = false := beq_eq_false_iff_ne.mpr h4
  go_enter Try.func6, Try.ntmps6
  go_wp2_with fail
  have QB := Aside0.mk (show DoBox ((((w.alloc (.cells #[.slice A L.length c, .int .i64 last] 28)).alloc (.cells #[.int .i64 kind, .int .i64 at_, .int .i64 id] 30)).alloc (.cells #[.slice none 0 0, .int .i64 0] 28)).alloc (.cells #[.int .i64 0, .bool false, .int .i64 0, .slice none 0 0] 33)) w.heap.size A L.length c last kind at_ id from
    ⟨(four_blocks w _ _ _ _).1, (four_blocks w _ _ _ _).2.1, (four_blocks w _ _ _ _).2.2.1, (four_blocks w _ _ _ _).2.2.2⟩)
  have QW := Aside0.mk (show Below w.heap.size w ((((w.alloc (.cells #[.slice A L.length c, .int .i64 last] 28)).alloc (.cells #[.int .i64 kind, .int .i64 at_, .int .i64 id] 30)).alloc (.cells #[.slice none 0 0, .int .i64 0] 28)).alloc (.cells #[.int .i64 0, .bool false, .int .i64 0, .slice none 0 0] 33)) from
    below_alloc (below_alloc (below_alloc (below_alloc (Below.refl _ _) _) _) _) _)
  generalize ((((w.alloc (.cells #[.slice A L.length c, .int .i64 last] 28)).alloc (.cells #[.int .i64 kind, .int .i64 at_, .int .i64 id] 30)).alloc (.cells #[.slice none 0 0, .int .i64 0] 28)).alloc (.cells #[.int .i64 0, .bool false, .int .i64 0, .slice none 0 0] 33)) = w1 at QB QW ⊢
  have HL1 := Aside0.mk (HL.out.below QW.out)
  refine (chicaneref06_Find.calls nf A c L id r w1 HL1.out.read HL1.out.cap HF.out).mono ?_
  rintro e w2 ⟨rfl, hd2⟩
  have hb2 := hd2.below
  have QB2 := Aside0.mk (QB.out.below hb2)
  have QW2 := Aside0.mk (below_then QW.out QW.out.size hb2)
  have HL2 := Aside0.mk (HL1.out.below hb2)
  clear QB QW HL1 hd2 hb2
  have x0 := cell_of QB2.out.h0 0
  have x1 := cell_of QB2.out.h0 1
  simp only [List.getElem?_toArray, List.getElem?_cons_zero, List.getElem?_cons_succ] at x0 x1
  have o0 := cell_of QB2.out.h1 0
  have o1 := cell_of QB2.out.h1 1
  have o2 := cell_of QB2.out.h1 2
  simp only [List.getElem?_toArray, List.getElem?_cons_zero, List.getElem?_cons_succ] at o0 o1 o2
  have r0 := cell_of QB2.out.h2 0
  have r1 := cell_of QB2.out.h2 1
  simp only [List.getElem?_toArray, List.getElem?_cons_zero, List.getElem?_cons_succ] at r0 r1
  have s0 := cell_of QB2.out.h3 0
  have s1 := cell_of QB2.out.h3 1
  have s2 := cell_of QB2.out.h3 2
  have s3 := cell_of QB2.out.h3 3
  simp only [List.getElem?_toArray, List.getElem?_cons_zero, List.getElem?_cons_succ] at s0 s1 s2 s3
  have fx0 := fz_of QB2.out.h0 0
  have fx1 := fz_of QB2.out.h0 1
  have fr0 := fz_of QB2.out.h2 0
  have fr1 := fz_of QB2.out.h2 1
  have fs0 := fz_of QB2.out.h3 0
  have fs1 := fz_of QB2.out.h3 1
  have fs2 := fz_of QB2.out.h3 2
  have fs3 := fz_of QB2.out.h3 3
  go_wp2_with fail
  refine bodyPost_ret (v := .tuple #[.agg #[.slice A L.length c, .int .i64 last], .agg #[.int .i64 0, .bool false, .int .i64 0, .slice none 0 0]]) (by simp [results, Try.results6, go_sem, r0, r1, s0, s1, s2, s3]) rfl ⟨rfl, ?_⟩
  repeat (with_reducible first | exact QW2.out | refine below_box ?_ _ (by dsimp only; omega) _ | refine below_drew ?_)

end Go.Proofs.Ytpfoefmcjbdeeaa
