/-
  drop, Cancel, When, Move: what they do to the heap.
-/
import Derived.Test.YtpfoefmcjbdeeaaSink
namespace Go.Proofs.Ytpfoefmcjbdeeaa
open Go.RowKit Go.Maps Go.Proofs.YtpfoefmcjbdeeaaW.PrintWords Go.Proofs.YtpfoefmcjbdeeaaW.PrintLast Go.Proofs.YtpfoefmcjbdeeaaW.PrintMore
open Go.Proofs.Ytpfoefmcjbdeeaa.PAlarmAll

theorem riseF_length (h : List S38) (k : Nat) : (riseF h k).length = h.length := by
  induction k using Nat.strongRecOn generalizing h with
  | _ k ih =>
    rw [riseF]
    split
    · split
      · rw [ih _ (by omega), swp_length]
      · rfl
    · rfl
theorem sinkF_length (h : List S38) (k : Nat) : (sinkF h k).length = h.length := by
  induction hn : h.length - k using Nat.strongRecOn generalizing h k with
  | _ n ih =>
    by_cases hc : bestF h k 2 ≠ k ∧ k < h.length
    · rw [sinkF_go h k hc.2 hc.1]
      have h1 := bestF_ge h k 2
      have h2 := bestF_lt h k hc.2 2
      rw [ih _ (by rw [swp_length]; omega) _ _ rfl, swp_length]
    · rw [sinkF, dif_neg hc]

theorem rd_take (h : List S38) (n j : Nat) (hj : j < n) : rd_T38 (h.take n) j = rd_T38 h j := by
  simp only [rd_T38, Int.toNat_natCast, List.getD_eq_getElem?_getD, List.getElem?_take, hj, if_true]
theorem Pos.cut {h : List S38} {D : D0} (p : Pos h D) (t : Tidy D) (hn : 0 < h.length) : Pos (h.take (h.length - 1)) (D.del (idl (rd_T38 h (h.length - 1 : Nat)).f1)) := by
  have hl : (h.take (h.length - 1)).length = h.length - 1 := by simp
  have hne : ∀ j : Nat, j < h.length - 1 → idl (rd_T38 h j).f1 ≠ idl (rd_T38 h (h.length - 1 : Nat)).f1 := fun j hj e => by
    injection e with _ e
    have := p.inj j (h.length - 1) (by omega) (by omega) e
    omega
  refine ⟨?_, ?_, ?_, ?_, ?_⟩
  · have := size_del t (k := idl (rd_T38 h (h.length - 1 : Nat)).f1)
    rw [(p.at_ (h.length - 1) (by omega)).1] at this
    have := p.len
    simp at *
    omega
  · rw [hl]; have := p.few; omega
  · intro j hj
    rw [hl] at hj
    rw [rd_take _ _ _ hj]
    exact p.id j (by omega)
  · intro j hj
    rw [hl] at hj
    rw [rd_take _ _ _ hj, has_del_other (hne j hj)]
    refine ⟨(p.at_ j (by omega)).1, fun z => ?_⟩
    rw [atKey_del_other (hne j hj)]
    exact (p.at_ j (by omega)).2 z
  · intro i hi
    by_cases e : idl i = idl (rd_T38 h (h.length - 1 : Nat)).f1
    · rw [e, has_del_same] at hi; cases hi
    · rw [has_del_other e] at hi
      obtain ⟨j, hj, e2⟩ := p.only i hi
      have hj2 : j ≠ h.length - 1 := by rintro rfl; exact e (by rw [e2])
      refine ⟨j, by omega, ?_⟩
      rw [rd_take _ _ _ (by omega)]
      exact e2

/-- What drop makes of the heap. -/
def dropF (h : List S38) (k : Nat) : List S38 :=
  if k < h.length - 1 then sinkF (riseF ((swp h k (h.length - 1)).take (h.length - 1)) k) k else (swp h k (h.length - 1)).take (h.length - 1)

theorem own_cut {base : Nat} {w : World} {b n c : Nat} {h : List S38} (r : w.ownsRow base 38 2 (.slice (some ⟨b, 0, none⟩) n c) h.length (cells2 h)) (m : Nat) (hm : m ≤ h.length) :
    w.ownsRow base 38 2 (.slice (some ⟨b, 0, none⟩) m c) (h.take m).length (cells2 (h.take m)) := by
  have hl : (h.take m).length = m := by simp; omega
  refine ⟨by rw [cells2_length], ?_⟩
  rcases r.2 with ⟨h0, _⟩ | ⟨b', cap, cur, e, hb, hh, hc, hm', hs, ht⟩
  · cases h0
  · injection e with e1 e2 e3; injection e1 with e1; injection e1 with e1; subst e1 e2 e3
    refine .inr ⟨b, c, cur, by rw [hl], hb, hh, by rw [hl]; omega, hm', hs, ?_⟩
    rw [hl]
    have : cells2 (h.take m) = (cells2 h).take (m * 2) := by
      have h1 : cells2 h = cells2 (h.take m) ++ cells2 (h.drop m) := by rw [← cells2_append, List.take_append_drop]
      have h2 : (cells2 (h.take m)).length = m * 2 := by rw [cells2_length, hl]
      rw [h1, ← h2, List.take_left]
    rw [this, ← ht, List.take_take]
    congr 1
    omega

/-- The field of the slice is written. -/
theorem Al.setL {base : Nat} {w : World} {g : Nat} {lv : Value} {mb : Nat} {h : List S38} {D : D0} {last : Int} (a : Al base w g lv mb h D last) {lv' : Value} {h' : List S38} (r : w.ownsRow base 38 2 lv' h'.length (cells2 h')) :
    Al base (w.setCell ⟨g, 0, none⟩ lv') g lv' mb h' D last := by
  refine ⟨a.hg, by rw [heap_setCell_at a.blk]; simp, own_far r (fun e => ?_) _, a.hm, a.map.setCell (a.mapNe a.blk) _⟩
  obtain ⟨cs, hh⟩ := own_typed r g e
  rw [a.blk] at hh
  simp at hh

set_option maxRecDepth 100000 in
set_option maxHeartbeats 1000000 in
theorem drop_calls {base : Nat} {w : World} {g : Nat} {lv : Value} {mb : Nat} {h : List S38} {last : Int} (a : Ax base w g lv mb h last) (k : Nat) (hk : k < h.length) :
    Calls Try.prog 32 #[.pointer (some ⟨g, 0, none⟩), .int .i64 k] w fun e w' => e = .returned (.tuple #[]) ∧ ∃ lv', Ax base w' g lv' mb (dropF h k) last ∧ Fr g lv mb w w' ∧ lv'.ownBlock = lv.ownBlock := by
  obtain ⟨D, a, p⟩ := a
  have hfew := p.few
  obtain ⟨n, hn⟩ : ∃ n, n + 1 = h.length := ⟨h.length - 1, by omega⟩
  obtain ⟨b, c, rfl, hb, hc, lb, -, -, -⟩ := own_at a.row k hk
  have c0 := a.c0
  have QA := Aside0.mk (a.ax p)
  clear a p
  have ce : (h.length : Int) - 1 = (n : Int) := by omega
  have CE := Aside0.mk ce
  have HN := Aside0.mk hn
  clear ce hn
  go_enter Try.func32, Try.ntmps32
  go_wp2_with fail
  rw [CE.out]
  refine (ax_swap QA.out k n hk (by have := HN.out; omega)).mono ?_
  rintro e w1 ⟨rfl, ⟨D1, A1, P1⟩, F1⟩
  have e1 : (swp h k n).length = h.length := swp_length h k n
  have hn2 : n < (swp h k n).length := by have := HN.out; omega
  obtain ⟨b', c', e', _, _, _, f0, f1, _⟩ := own_at A1.row n hn2
  injection e' with e' e2 e3; injection e' with e'; injection e' with e'; subst e' e3
  obtain ⟨w2, hrun, own2, tu2⟩ := (A1.drew.map).drop keyed3 Try.underlying48 (key3 (P1.id n hn2).1 (P1.id n hn2).2) 0
  have hn3 : n < h.length := by have := HN.out; omega
  have c0' := A1.c0
  have c1' := A1.c1
  have HE1 := Aside0.mk e1
  have QA1 := Aside0.mk A1
  have QP1 := Aside0.mk P1
  have QF1 := Aside0.mk F1
  have QO2 := Aside0.mk own2
  have QT2 := Aside0.mk tu2
  clear A1 P1 F1 own2 tu2 e1 e2 c0
  go_wp2_with fail
  go_region
  have A2 := QA1.out.drew.mapped QO2.out QT2.out.grown
  have hrow := own_cut A2.row n (by rw [HE1.out]; omega)
  have A3 := A2.setL (lv' := .slice (some ⟨b, 0, none⟩) n c) (h' := (swp h k n).take n) hrow
  have P3 := QP1.out.cut (QA1.out.map.tidy keyed3) (by omega)
  have en : (swp h k n).length - 1 = n := by rw [HE1.out]; have := HN.out; omega
  rw [en] at P3
  have c02 := A2.c0
  have fz2 := A2.fz 0
  have hnc : n ≤ c := by omega
  have QF2 := Aside0.mk (QF1.out.drew.grown QT2.out.grown (fun j e => by cases e; exact .inr (.inr rfl)))
  have QA3 := Aside0.mk (A3.ax P3)
  have QF3 := Aside0.mk (QF2.out.setCell (p := ⟨g, 0, none⟩) (.inl rfl) (.slice (some ⟨b, 0, none⟩) n c))
  clear A2 hrow A3 P3 en QF2 QT2 QO2 QF1 QP1 QA1 hrun c0' c1' f0 f1
  have hln : ((swp h k n).take n).length = n := by simp only [List.length_take]; omega
  have HLN := Aside0.mk hln
  clear hln
  by_cases hkn : k < n
  · go_wp2_with fail
    refine (rise_calls QA3.out k (by rw [HLN.out]; exact hkn)).mono ?_
    rintro e w3 ⟨rfl, A4, F4⟩
    have QA4 := Aside0.mk A4
    have QF4 := Aside0.mk (QF3.out.trans F4 (fun _ _ h => h))
    clear A4 F4 QA3 QF3
    go_wp2_with fail
    refine (sink_calls QA4.out k (by rw [riseF_length, HLN.out]; exact hkn)).mono ?_
    rintro e w4 ⟨rfl, A5, F5⟩
    have QA5 := Aside0.mk A5
    have QF5 := Aside0.mk (QF4.out.trans F5 (fun _ _ h => h))
    clear A5 F5 QA4 QF4
    go_wp2_with fail
    go_end0
    refine ⟨rfl, .slice (some ⟨b, 0, none⟩) n c, ?_, QF5.out, rfl⟩
    have e1 := HN.out
    have e2 : h.length - 1 = n := by omega
    unfold dropF
    rw [e2, if_pos hkn]
    exact QA5.out
  · go_wp2_with fail
    go_end0
    refine ⟨rfl, .slice (some ⟨b, 0, none⟩) n c, ?_, QF3.out, rfl⟩
    have e1 := HN.out
    have e2 : h.length - 1 = n := by omega
    unfold dropF
    rw [e2, if_neg hkn]
    exact QA3.out

/-- Where a number stands. -/
theorem Pos.look {h : List S38} {D : D0} (p : Pos h D) (i : Int) : (has D (idl i) = true ∧ ∃ j : Nat, j < h.length ∧ (rd_T38 h j).f1 = i ∧ D.atKey (idl i) zl = .lit (.int .i64 j)) ∨
    (has D (idl i) = false ∧ D.atKey (idl i) zl = zl ∧ ∀ j : Nat, j < h.length → (rd_T38 h j).f1 ≠ i) := by
  cases hh : has D (idl i) with
  | true =>
    obtain ⟨j, hj, e⟩ := p.only i hh
    exact .inl ⟨rfl, j, hj, e, by rw [← e]; exact (p.at_ j hj).2 zl⟩
  | false =>
    refine .inr ⟨rfl, atKey_of_not_has hh zl, fun j hj e => ?_⟩
    have := (p.at_ j hj).1
    rw [e, hh] at this
    cases this

theorem look_run {base : Nat} {w : World} {g : Nat} {lv : Value} {mb : Nat} {h : List S38} {D : D0} {last : Int} (a : Al base w g lv mb h D last) (i : Int) (hw : (Lit.int .i64 i).wf = true) :
    ∃ c : Int, (Instr.lookup 48 (.map (some mb)) (.int .i64 i) true).run Try.prog w = .ok (.tuple #[.int .i64 c, .bool (has D (idl i))]) w ∧ D.atKey (idl i) zl = .lit (.int .i64 c) := by
  obtain ⟨v, ps, hrun, hv⟩ := a.map.look_ok keyed3 Try.underlying48 (zero3 w) (plainElem_int (H := Unit) Try.underlying3 (a := 0) (by decide)) (keyOf_int_mk Try.underlying3 hw)
  obtain ⟨c, rfl, hc, _⟩ := plainElem_int_inv Try.underlying3 hv
  exact ⟨c, hrun, congrArg Prod.fst hc⟩

set_option maxHeartbeats 400000 in
theorem when_none {base : Nat} {w : World} {g : Nat} {lv : Value} {mb : Nat} {h : List S38} {last : Int} (a : Ax base w g lv mb h last) (i : Int) (hw : (Lit.int .i64 i).wf = true) (hn : ∀ j : Nat, j < h.length → (rd_T38 h j).f1 ≠ i) :
    Calls Try.prog 22 #[.pointer (some ⟨g, 0, none⟩), .int .i64 i] w fun e w' => e = .returned (.tuple #[.int .i64 0, .bool false]) ∧ w = w' := by
  obtain ⟨D, a, p⟩ := a
  have c0 := a.c0
  have c1 := a.c1
  rcases p.look i with ⟨_, j, hj, e, _⟩ | ⟨h1, h2, _⟩
  · exact absurd e (hn j hj)
  obtain ⟨c, hrun, hc⟩ := look_run a i hw
  rw [h1] at hrun
  clear hc h1 h2 hn a p
  go_enter Try.func22, Try.ntmps22
  go_wp2
  go_ret2
  exact ⟨rfl, rfl⟩

set_option maxHeartbeats 400000 in
theorem when_some {base : Nat} {w : World} {g : Nat} {lv : Value} {mb : Nat} {h : List S38} {last : Int} (a : Ax base w g lv mb h last) (j : Nat) (hj : j < h.length) :
    Calls Try.prog 22 #[.pointer (some ⟨g, 0, none⟩), .int .i64 (rd_T38 h j).f1] w fun e w' => e = .returned (.tuple #[.int .i64 (rd_T38 h j).f0, .bool true]) ∧ w = w' := by
  obtain ⟨D, a, p⟩ := a
  obtain ⟨b, c, rfl, hb, hc, lb, e0, e1, -⟩ := own_at a.row j hj
  have c0 := a.c0
  have c1 := a.c1
  have hid := p.id j hj
  obtain ⟨q, hrun, hq⟩ := look_run a (rd_T38 h j).f1 (WalkArith.wf_i64 (by omega))
  rw [(p.at_ j hj).1] at hrun
  rw [(p.at_ j hj).2] at hq
  obtain rfl : (j : Int) = q := by injection hq with hq; injection hq with _ hq
  clear hq a p hid
  go_enter Try.func22, Try.ntmps22
  go_wp2
  go_ret2
  exact ⟨rfl, rfl⟩

set_option maxHeartbeats 400000 in
theorem cancel_none {base : Nat} {w : World} {g : Nat} {lv : Value} {mb : Nat} {h : List S38} {last : Int} (a : Ax base w g lv mb h last) (i : Int) (hw : (Lit.int .i64 i).wf = true) (hn : ∀ j : Nat, j < h.length → (rd_T38 h j).f1 ≠ i) :
    Calls Try.prog 15 #[.pointer (some ⟨g, 0, none⟩), .int .i64 i] w fun e w' => e = .returned (.bool false) ∧ w = w' := by
  obtain ⟨D, a, p⟩ := a
  have c1 := a.c1
  rcases p.look i with ⟨_, j, hj, e, _⟩ | ⟨h1, h2, _⟩
  · exact absurd e (hn j hj)
  obtain ⟨c, hrun, hc⟩ := look_run a i hw
  rw [h1] at hrun
  clear hc h1 h2 hn a p
  go_enter Try.func15, Try.ntmps15
  go_wp2
  go_ret
  exact ⟨rfl, rfl⟩

set_option maxHeartbeats 400000 in
theorem cancel_some {base : Nat} {w : World} {g : Nat} {lv : Value} {mb : Nat} {h : List S38} {last : Int} (a : Ax base w g lv mb h last) (j : Nat) (hj : j < h.length) :
    Calls Try.prog 15 #[.pointer (some ⟨g, 0, none⟩), .int .i64 (rd_T38 h j).f1] w fun e w' => e = .returned (.bool true) ∧ ∃ lv', Ax base w' g lv' mb (dropF h j) last ∧ Fr g lv mb w w' ∧ lv'.ownBlock = lv.ownBlock := by
  have QA := Aside0.mk a
  obtain ⟨D, a, p⟩ := a
  have c1 := a.c1
  have hid := p.id j hj
  obtain ⟨q, hrun, hq⟩ := look_run a (rd_T38 h j).f1 (WalkArith.wf_i64 (by omega))
  rw [(p.at_ j hj).1] at hrun
  rw [(p.at_ j hj).2] at hq
  obtain rfl : (j : Int) = q := by injection hq with hq; injection hq with _ hq
  clear hq a p hid
  go_enter Try.func15, Try.ntmps15
  go_wp2_with fail
  refine (drop_calls QA.out j hj).mono ?_
  rintro e w' ⟨rfl, hx⟩
  have HX := Aside0.mk hx
  clear hx
  go_wp2_with fail
  go_ret
  exact ⟨rfl, HX.out⟩
end Go.Proofs.Ytpfoefmcjbdeeaa
