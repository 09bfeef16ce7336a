/-
  Take: all that are due.
-/
import Derived.Test.YtpfoefmcjbdeeaaSet
namespace Go.Proofs.Ytpfoefmcjbdeeaa
open Go.RowKit Go.Maps Go.Proofs.YtpfoefmcjbdeeaaW.PrintWords Go.Proofs.YtpfoefmcjbdeeaaW.PrintLast Go.Proofs.YtpfoefmcjbdeeaaW.PrintMore
open Go.Proofs.Ytpfoefmcjbdeeaa.PAlarmAll

theorem dropF_length (h : List S38) (k : Nat) : (dropF h k).length = h.length - 1 := by
  unfold dropF
  split
  · rw [sinkF_length, riseF_length]; simp [swp_length]
  · simp [swp_length]

/-- What Take takes, and what stays. -/
def takeF (now : Int) (h : List S38) : List S38 × List S38 :=
  if _hc : 0 < h.length ∧ (rd_T38 h 0).f0 ≤ now then ((rd_T38 h 0) :: (takeF now (dropF h 0)).1, (takeF now (dropF h 0)).2) else ([], h)
termination_by h.length
decreasing_by all_goals (rw [dropF_length]; omega)
theorem takeF_stop (now : Int) (h : List S38) (hc : ¬ (0 < h.length ∧ (rd_T38 h 0).f0 ≤ now)) : takeF now h = ([], h) := by rw [takeF, dif_neg hc]
theorem takeF_go (now : Int) (h : List S38) (hc : 0 < h.length ∧ (rd_T38 h 0).f0 ≤ now) : takeF now h = ((rd_T38 h 0) :: (takeF now (dropF h 0)).1, (takeF now (dropF h 0)).2) := by
  conv => lhs; rw [takeF]
  rw [dif_pos hc]

def isB (h : List S38) : Bool := !h.isEmpty
theorem isB_pos {h : List S38} (hp : 0 < h.length) : isB h = true := by cases h <;> simp_all [isB]
theorem isB_neg {h : List S38} (hp : ¬ 0 < h.length) : isB h = false := by cases h <;> simp_all [isB]
theorem rd_nil (i : Int) : rd_T38 [] i = ⟨0, 0⟩ := by simp [rd_T38, z38]
theorem next_any {base : Nat} {w : World} {g : Nat} {lv : Value} {mb : Nat} {h : List S38} {last : Int} (a : Ax base w g lv mb h last) :
    Calls Try.prog 8 #[.pointer (some ⟨g, 0, none⟩)] w fun e w' => e = .returned (.tuple #[.agg #[.int .i64 (rd_T38 h 0).f0, .int .i64 (rd_T38 h 0).f1], .bool (isB h)]) ∧ Below w.heap.size w w' := by
  obtain ⟨D, a, p⟩ := a
  by_cases hp : 0 < h.length
  · rw [isB_pos hp]; exact next_some a hp
  · obtain rfl : h = [] := by cases h <;> simp_all
    rw [isB_neg hp, rd_nil]; exact next_none a

/-- What holds at each round's head. -/
structure TakeInv (base : Nat) (w : World) (g : Nat) (lv : Value) (mb : Nat) (h : List S38) (last now : Int) (n : Nat) (wr : World) (v5 : Value) (bx : Nat) (h' out : List S38) (lv' : Value) : Prop where
  len : n = h'.length
  sum : out.length + h'.length = h.length
  al : Ax base wr g lv' mb h' last
  fr : Fr g lv mb w wr
  ob : lv'.ownBlock = lv.ownBlock
  row : wr.ownsRow w.heap.size 38 2 v5 out.length (cells2 out)
  blk : wr.heap[bx]? = some (.cells #[.int .i64 (rd_T38 h' 0).f0, .int .i64 (rd_T38 h' 0).f1] 38 (0, 0))
  bge : w.heap.size ≤ bx
  bne : v5.ownBlock ≠ some bx
  one : out ++ (takeF now h').1 = (takeF now h).1
  two : (takeF now h').2 = (takeF now h).2

set_option maxRecDepth 100000 in
set_option maxHeartbeats 2000000 in
theorem take_calls {base : Nat} {w : World} {g : Nat} {lv : Value} {mb : Nat} {h : List S38} {last : Int} (a : Ax base w g lv mb h last) (now : Int) :
    Calls Try.prog 16 #[.pointer (some ⟨g, 0, none⟩), .int .i64 now] w fun e w' => ∃ v, e = .returned v ∧ w'.ownsRow w.heap.size 38 2 v (takeF now h).1.length (cells2 (takeF now h).1) ∧
      ∃ lv', Ax base w' g lv' mb (takeF now h).2 last ∧ Fr g lv mb w w' ∧ lv'.ownBlock = lv.ownBlock := by
  obtain ⟨i0, hi, hz0, hz1, hz2⟩ := info_parts info38
  have QA := Aside0.mk a
  have hgl : g < w.heap.size ∧ mb < w.heap.size ∧ ∀ k, lv.ownBlock = some k → k < w.heap.size := by
    obtain ⟨D, a, _⟩ := a
    exact ⟨a.lt, a.map.lt, own_lt a.row⟩
  have HGL := Aside0.mk hgl
  clear a hgl
  go_enter Try.func16, Try.ntmps16
  go_wp2_with fail
  refine (next_any QA.out).mono ?_
  rintro e w1 ⟨rfl, hb1⟩
  have hs1 := hb1.size
  have QA1 := Aside0.mk (show Ax base w1 g lv mb h last from QA.out.choose_spec.1.below hb1 |>.ax QA.out.choose_spec.2)
  have QF1 := Aside0.mk ((Fr.refl g lv mb w).below hb1)
  clear hb1 QA
  go_wp2_with fail
  have hA : Aside0 (TakeInv base w g lv mb h last now h.length (w1.alloc (.cells #[.int .i64 (rd_T38 h 0).f0, .int .i64 (rd_T38 h 0).f1] 38)) (.slice none 0 0) w1.heap.size h [] lv) :=
    ⟨⟨rfl, by simp, (QA1.out.choose_spec.1.alloc _).ax QA1.out.choose_spec.2, QF1.out.alloc _, rfl, ⟨rfl, .inl ⟨rfl, rfl⟩⟩, heap_alloc_new _ _, hs1, by simp [Value.ownBlock], by simp, rfl⟩⟩
  have hf9 : h.length < 900000 := QA1.out.choose_spec.2.few
  clear QA1 QF1
  go_loopg [5, 6, 7] h.length (fun n v5 v6 v7 wr => ∃ (h' out : List S38) (lv' v : Value) (bx : Nat), v5 = v ∧ v6 = .pointer (some ⟨bx, 0, none⟩) ∧ v7 = .bool (isB h') ∧ Aside0 (TakeInv base w g lv mb h last now n wr v bx h' out lv'))
  case atStart => exact ⟨h, [], lv, _, w1.heap.size, rfl, rfl, rfl, hA⟩
  case round =>
    clear hA
    obtain ⟨h', out, lv', v5, bx, hv, rfl, rfl, HI⟩ := hrel
    have hv2 := hv.symm
    clear hv
    subst hv2
    have b0 : wr.cell? ⟨bx, 0, none⟩ = some (.int .i64 (rd_T38 h' 0).f0) := by simp [World.cell?, HI.out.blk]
    have b1 : wr.cell? ⟨bx, 1, none⟩ = some (.int .i64 (rd_T38 h' 0).f1) := by simp [World.cell?, HI.out.blk]
    by_cases hc : 0 < h'.length ∧ (rd_T38 h' 0).f0 ≤ now
    · obtain ⟨hp, hle⟩ := hc
      rw [isB_pos hp]
      have hL := HGL.out
      have hv5 : ∀ k, v5.ownBlock = some k → w.heap.size ≤ k := own_base HI.out.row
      have hal := HI.out.al
      have hob := HI.out.ob
      have hsum := HI.out.sum
      have AP := Aside0.mk (show ∀ w2, (wr.alloc (.cells #[.int .i64 (rd_T38 h' 0).f0, .int .i64 (rd_T38 h' 0).f1] 38)).grownBy w2 v5.ownBlock → Ax base w2 g lv' mb h' last ∧ Fr g lv mb w w2 ∧ w2.heap[bx]? = some (.cells #[.int .i64 (rd_T38 h' 0).f0, .int .i64 (rd_T38 h' 0).f1] 38 (0, 0)) from fun w2 hg => by
        obtain ⟨D, a, p⟩ := hal
        refine ⟨((a.alloc _).grown hg ?_ ?_ ?_).ax p, ?_, ?_⟩
        · intro e; have := hv5 _ e; omega
        · intro e; have := hv5 _ e; omega
        · rcases h0 : v5.ownBlock with _ | k
          · exact .inl rfl
          · refine .inr fun e => ?_
            rw [hob] at e
            have := hL.2.2 k e.symm
            have := hv5 k h0
            omega
        · have hf := HI.out.fr.alloc (.cells #[.int .i64 (rd_T38 h' 0).f0, .int .i64 (rd_T38 h' 0).f1] 38)
          refine ⟨hg.os.trans hf.os, hg.tape.trans hf.tape, hg.output.trans hf.output, Nat.le_trans hf.size hg.size, fun k hk h1 h2 h3 => (hg.block k (Nat.lt_of_lt_of_le hk hf.size) (fun e => ?_)).trans (hf.block k hk h1 h2 h3)⟩
          have := hv5 k e.symm
          omega
        · have hbl : bx < wr.heap.size := (Array.getElem?_eq_some_iff.1 HI.out.blk).1
          rw [hg.block bx (by simp; omega) (fun e => HI.out.bne e.symm), heap_alloc_old _ _ hbl]
          exact HI.out.blk)
      have HR := Aside0.mk HI.out.row
      have hws := HI.out.fr.size
      have HV := Aside0.mk hv5
      have HO := Aside0.mk hob
      clear hL hv5 hal hob
      go_wp2_with (at_builtin; refine wpList_append_own_at _ rfl _ _ 43 rfl w.heap.size 38 i0 (.agg #[.int .i64 0, .int .i64 0]) 2 16 Try.underlying43 hi hz0 hz1 hz2 rfl (by decide) _ out.length (cells2 out) rfl (HR.out.alloc _) ⟨wr.heap.size, 0, none⟩ 1 1 [.int .i64 (rd_T38 h' 0).f0, .int .i64 (rd_T38 h' 0).f1] rfl rfl (two_new rfl) ?hn1 (by unfold maxLen; omega) (by omega) ?hn2 ?_)
      case hn1 => intro u hu; simp at hu; rcases hu with rfl | rfl <;> rfl
      case hn2 => simp; omega
      intro v' w2 own2 gr2 _ loc2
      obtain ⟨A2, F2, B2⟩ := AP.out w2 gr2
      have own2' : w2.ownsRow w.heap.size 38 2 v' (out ++ [rd_T38 h' 0]).length (cells2 (out ++ [rd_T38 h' 0])) := by
        simpa [cells2] using own2
      have hs2 := gr2.size
      simp only [World.size_alloc] at hs2
      have QA2 := Aside0.mk A2
      have QF2 := Aside0.mk F2
      have QB2 := Aside0.mk B2
      have QO2 := Aside0.mk own2'
      clear own2 gr2 A2 F2 B2 own2' AP HR b0 b1 loc2
      go_wp2_with fail
      refine (drop_calls QA2.out 0 hp).mono ?_
      rintro e w3 ⟨rfl, lv3, A3, F3, ob3⟩
      have hs3 := F3.size
      have bge := HI.out.bge
      have B3 : w3.heap[bx]? = some (.cells #[.int .i64 (rd_T38 h' 0).f0, .int .i64 (rd_T38 h' 0).f1] 38 (0, 0)) := by
        have hL := HGL.out
        rw [F3.block bx (Array.getElem?_eq_some_iff.1 QB2.out).1 (by omega) (fun e => by rw [HO.out] at e; have := hL.2.2 bx e.symm; omega) (by omega)]
        exact QB2.out
      have O3 : w3.ownsRow w.heap.size 38 2 v' (out ++ [rd_T38 h' 0]).length (cells2 (out ++ [rd_T38 h' 0])) := by
        have hL := HGL.out
        refine own_move QO2.out (fun k hk => ?_)
        have h1 := own_base QO2.out k hk
        have h2 := own_lt QO2.out k hk
        exact F3.block k h2 (by omega) (fun e => by rw [HO.out] at e; have := hL.2.2 k e.symm; omega) (by omega)
      have b0 : w3.cell? ⟨bx, 0, none⟩ = some (.int .i64 (rd_T38 h' 0).f0) := by simp [World.cell?, B3]
      have b1 : w3.cell? ⟨bx, 1, none⟩ = some (.int .i64 (rd_T38 h' 0).f1) := by simp [World.cell?, B3]
      have QA3 := Aside0.mk A3
      have QF3 := Aside0.mk (QF2.out.trans F3 (fun j _ e => by rw [HO.out] at e; exact e))
      have QO3 := Aside0.mk O3
      have HO3 := Aside0.mk (ob3.trans HO.out)
      clear A3 F3 ob3 B3 O3 QA2 QF2 QB2 QO2
      go_wp2_with fail
      have X4 := (QA3.out.choose_spec.1.alloc (.cells #[.int .i64 (rd_T38 h' 0).f0, .int .i64 (rd_T38 h' 0).f1] 38)).ax QA3.out.choose_spec.2
      have QF4 := Aside0.mk (QF3.out.alloc (.cells #[.int .i64 (rd_T38 h' 0).f0, .int .i64 (rd_T38 h' 0).f1] 38))
      have QO4 := Aside0.mk (own_move (w1 := w3.alloc (.cells #[.int .i64 (rd_T38 h' 0).f0, .int .i64 (rd_T38 h' 0).f1] 38)) QO3.out (fun k hk => heap_alloc_old _ _ (own_lt QO3.out k hk)))
      have B4 : (w3.alloc (.cells #[.int .i64 (rd_T38 h' 0).f0, .int .i64 (rd_T38 h' 0).f1] 38)).heap[w3.heap.size]? = some (.cells #[.int .i64 (rd_T38 h' 0).f0, .int .i64 (rd_T38 h' 0).f1] 38 (0, 0)) := heap_alloc_new _ _
      have HN4 := Aside0.mk (show v'.ownBlock ≠ some w3.heap.size from fun e => by have := own_lt QO3.out _ e; omega)
      have QA4 := Aside0.mk X4
      have QB4 := Aside0.mk B4
      have hs4 : (w3.alloc (.cells #[.int .i64 (rd_T38 h' 0).f0, .int .i64 (rd_T38 h' 0).f1] 38)).heap.size = w3.heap.size + 1 := by simp
      generalize w3.alloc (.cells #[.int .i64 (rd_T38 h' 0).f0, .int .i64 (rd_T38 h' 0).f1] 38) = w4 at QA4 QF4 QO4 QB4 hs4 ⊢
      have HS4 := Aside0.mk hs4
      clear X4 B4 hs4 b0 b1
      refine (next_any QA4.out).mono ?_
      rintro e w5 ⟨rfl, hb5⟩
      have QB5 := Aside0.mk ((hb5.block w3.heap.size (by have := HS4.out; omega)).trans QB4.out)
      have QA5 := Aside0.mk ((QA4.out.choose_spec.1.below hb5).ax QA4.out.choose_spec.2)
      have QF5 := Aside0.mk (QF4.out.below hb5)
      have QO5 := Aside0.mk (own_move QO4.out (fun k hk => hb5.block k (own_lt QO4.out k hk)))
      have hs5 : w3.heap.size < w5.heap.size := by have := hb5.size; have := HS4.out; omega
      have b0 : w5.cell? ⟨w3.heap.size, 0, none⟩ = some (.int .i64 (rd_T38 h' 0).f0) := by simp [World.cell?, QB5.out]
      have b1 : w5.cell? ⟨w3.heap.size, 1, none⟩ = some (.int .i64 (rd_T38 h' 0).f1) := by simp [World.cell?, QB5.out]
      have fz0 : w5.frozen? ⟨w3.heap.size, 0, none⟩ = false := by simp [World.frozen?, QB5.out]
      have fz1 : w5.frozen? ⟨w3.heap.size, 1, none⟩ = false := by simp [World.frozen?, QB5.out]
      clear hb5 QA3 QF3 QO3 QA4 QF4 QO4 QB4 HS4
      go_wp2_with fail
      go_roundg (gk - 1)
      case measure => have := HI.out.len; omega
      case rel =>
        refine ⟨dropF h' 0, out ++ [rd_T38 h' 0], lv3, v', w3.heap.size, rfl, rfl, rfl, ⟨?_⟩⟩
        have hL := HGL.out
        obtain ⟨D5, A5, P5⟩ := QA5.out
        have hng : w3.heap.size ≠ g := by omega
        have hnm : w3.heap.size ≠ mb := by omega
        have hnl : lv3.ownBlock ≠ some w3.heap.size := fun e => by rw [HO3.out] at e; have := hL.2.2 _ e; omega
        have hset : ∀ (W : World) (j : Nat) (u : Value), Ax base W g lv3 mb (dropF h' 0) last → Ax base (W.setCell ⟨w3.heap.size, j, none⟩ u) g lv3 mb (dropF h' 0) last := fun W j u ⟨D, A, P⟩ =>
          ⟨D, ⟨A.hg, by rw [Below.heap_setCell _ _ _ _ (Ne.symm hng)]; exact A.blk, own_far A.row hnl _, A.hm, A.map.setCell (Ne.symm hnm) _⟩, P⟩
        have hfr : ∀ (W : World) (j : Nat) (u : Value), Fr g lv mb w W → Fr g lv mb w (W.setCell ⟨w3.heap.size, j, none⟩ u) := fun W j u F =>
          ⟨F.os, F.tape, F.output, by simpa using F.size, fun k hk h1 h2 h3 => (Below.heap_setCell _ _ _ _ (by simp; omega)).trans (F.block k hk h1 h2 h3)⟩
        refine ⟨?_, ?_, hset _ _ _ (hset _ _ _ QA5.out), hfr _ _ _ (hfr _ _ _ QF5.out), HO3.out, own_far (own_far QO5.out HN4.out _) HN4.out _, ?_, by omega, HN4.out, ?_, ?_⟩
        · rw [dropF_length, HI.out.len]
        · rw [dropF_length, List.length_append]; simp; omega
        · rw [heap_setCell_at (heap_setCell_at QB5.out _)]; simp
        · rw [List.append_assoc, ← HI.out.one, takeF_go now h' ⟨hp, hle⟩]; rfl
        · rw [← HI.out.two, takeF_go now h' ⟨hp, hle⟩]
    · by_cases hp : 0 < h'.length
      · have hle : ¬ (rd_T38 h' 0).f0 ≤ now := fun e => hc ⟨hp, e⟩
        rw [isB_pos hp]
        go_wp2_with fail
        go_ret
        exact ⟨_, rfl, by rw [← HI.out.one, takeF_stop _ _ hc, List.append_nil]; exact HI.out.row, lv', by rw [← HI.out.two, takeF_stop _ _ hc]; exact HI.out.al, HI.out.fr, HI.out.ob⟩
      · rw [isB_neg hp]
        go_wp2_with fail
        go_ret
        exact ⟨_, rfl, by rw [← HI.out.one, takeF_stop _ _ hc, List.append_nil]; exact HI.out.row, lv', by rw [← HI.out.two, takeF_stop _ _ hc]; exact HI.out.al, HI.out.fr, HI.out.ob⟩
end Go.Proofs.Ytpfoefmcjbdeeaa
