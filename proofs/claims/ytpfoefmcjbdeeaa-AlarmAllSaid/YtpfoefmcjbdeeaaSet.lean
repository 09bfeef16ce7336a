/-
  Set and Move: what they do to the heap.
-/
import Derived.Test.YtpfoefmcjbdeeaaDrop
import Derived.Maps.AppendAt
import Derived.WalkSmall
namespace Go.Proofs.Ytpfoefmcjbdeeaa
open Go.RowKit Go.Maps Go.Proofs.YtpfoefmcjbdeeaaW.PrintWords Go.Proofs.YtpfoefmcjbdeeaaW.PrintLast Go.Proofs.YtpfoefmcjbdeeaaW.PrintMore
open Go.Proofs.Ytpfoefmcjbdeeaa.PAlarmAll

theorem rd_snoc_old (h : List S38) (d : S38) (j : Nat) (hj : j < h.length) : rd_T38 (h ++ [d]) j = rd_T38 h j := by
  simp [rd_T38, List.getElem?_append, hj]
theorem rd_snoc_new (h : List S38) (d : S38) : rd_T38 (h ++ [d]) (h.length : Nat) = d := by
  simp [rd_T38]
theorem set_snoc (h : List S38) (x d : S38) : (h ++ [x]).set h.length d = h ++ [d] := by simp
theorem Pos.push {h : List S38} {D : D0} (p : Pos h D) (t : Tidy D) (d : S38) (hd0 : 0 ≤ d.f1) (hd1 : d.f1 < 4611686018427387904) (hnew : ∀ j : Nat, j < h.length → (rd_T38 h j).f1 ≠ d.f1) (hf : h.length + 1 < 900000) :
    Pos (h ++ [d]) (D.put (idl d.f1) (.lit (.int .i64 (h.length : Nat)))) := by
  have hno : has D (idl d.f1) = false := by
    cases hh : has D (idl d.f1) with
    | false => rfl
    | true => obtain ⟨j, hj, e⟩ := p.only _ hh; exact absurd e (hnew j hj)
  have hne : ∀ j : Nat, j < h.length → idl (rd_T38 h j).f1 ≠ idl d.f1 := fun j hj e => by injection e with _ e; exact hnew j hj e
  have hl : (h ++ [d]).length = h.length + 1 := by simp
  refine ⟨?_, by rw [hl]; exact hf, ?_, ?_, ?_⟩
  · rw [size_put t, hno, hl, p.len]; rfl
  · intro j hj
    rw [hl] at hj
    by_cases e : j < h.length
    · rw [rd_snoc_old _ _ _ e]; exact p.id j e
    · obtain rfl : j = h.length := by omega
      rw [rd_snoc_new]; exact ⟨hd0, hd1⟩
  · intro j hj
    rw [hl] at hj
    by_cases e : j < h.length
    · rw [rd_snoc_old _ _ _ e, has_put_other (hne j e)]
      refine ⟨(p.at_ j e).1, fun z => ?_⟩
      rw [atKey_put_other (hne j e)]
      exact (p.at_ j e).2 z
    · obtain rfl : j = h.length := by omega
      rw [rd_snoc_new]
      exact ⟨has_put_same t.isMap (isKey_i64 _) _, fun z => atKey_put_same t.isMap (isKey_i64 _) _ z⟩
  · intro i hi
    by_cases e : idl i = idl d.f1
    · refine ⟨h.length, by omega, ?_⟩
      rw [rd_snoc_new]
      injection e with _ e
      exact e.symm
    · rw [has_put_other e] at hi
      obtain ⟨j, hj, e2⟩ := p.only i hi
      exact ⟨j, by omega, by rw [rd_snoc_old _ _ _ hj]; exact e2⟩

theorem Al.setLast {base : Nat} {w : World} {g : Nat} {lv : Value} {mb : Nat} {h : List S38} {D : D0} {last : Int} (a : Al base w g lv mb h D last) (n : Int) : Al base (w.setCell ⟨g, 2, none⟩ (.int .i64 n)) g lv mb h D n := by
  refine ⟨a.hg, by rw [heap_setCell_at a.blk]; simp, own_far a.row (fun e => ?_) _, a.hm, a.map.setCell (a.mapNe a.blk) _⟩
  obtain ⟨cs, hh⟩ := own_typed a.row g e
  rw [a.blk] at hh
  simp at hh

theorem Al.rowBlk {base : Nat} {w w1 : World} {g : Nat} {lv : Value} {mb : Nat} {h : List S38} {D : D0} {last : Int} (a : Al base w g lv mb h D last) (hg : w.grownBy w1 lv.ownBlock) : w1.heap[g]? = some (.cells #[lv, .map (some mb), .int .i64 last] 50 (0, 0)) := by
  have hgl : some g ≠ lv.ownBlock := fun e => by
    obtain ⟨cs, hh⟩ := own_typed a.row g e.symm
    rw [a.blk] at hh
    simp at hh
  exact (hg.block g a.lt hgl).trans a.blk
/-- A longer row, and the field of the slice written. -/
theorem Al.setRow {base : Nat} {w w1 : World} {g : Nat} {lv : Value} {mb : Nat} {h : List S38} {D : D0} {last : Int} (a : Al base w g lv mb h D last) (hg : w.grownBy w1 lv.ownBlock) {lv' : Value} {h' : List S38} (r : w1.ownsRow base 38 2 lv' h'.length (cells2 h')) :
    Al base (w1.setCell ⟨g, 0, none⟩ lv') g lv' mb h' D last := by
  have hgl : some g ≠ lv.ownBlock := fun e => by
    obtain ⟨cs, hh⟩ := own_typed a.row g e.symm
    rw [a.blk] at hh
    simp at hh
  have hml : some mb ≠ lv.ownBlock := fun e => by
    obtain ⟨cs, hh⟩ := own_typed a.row mb e.symm
    exact a.mapNe hh rfl
  have blk1 := (hg.block g a.lt hgl).trans a.blk
  refine ⟨a.hg, by rw [heap_setCell_at blk1]; simp, own_far r (fun e => ?_) _, a.hm, (a.map.kept hg hml).setCell (a.mapNe a.blk) _⟩
  obtain ⟨cs, hh⟩ := own_typed r g e
  rw [blk1] at hh
  simp at hh

theorem two_new {W : World} {n : Nat} {a b : Value} {t : TypeId} (hs : W.heap.size = n) : ∀ j u, [a, b][j]? = some u → (W.alloc (.cells #[a, b] t)).cell? ((⟨n, 0, none⟩ : Addr).add j) = some u := by
  subst hs
  exact cell_two_new W a b t

set_option maxHeartbeats 400000 in
theorem set_wrong {w : World} {g : Nat} (at_ : Int) (hat : ¬ (0 ≤ at_ ∧ at_ ≤ 1099511627776)) :
    Calls Try.prog 14 #[.pointer (some ⟨g, 0, none⟩), .int .i64 at_] w fun e w' => e = .returned (.tuple #[.int .i64 0, .int .i64 1]) ∧ Below w.heap.size w w' := by
  have hf : alarm_right.f at_ = some false := by
    unfold alarm_right.f
    by_cases h0 : 0 ≤ at_
    · simp [h0]; omega
    · simp [h0]
  go_enter Try.func14, Try.ntmps14
  go_wp2_with fail
  refine (alarm_right.calls at_ false w hf).mono ?_
  rintro e w' ⟨rfl, hb⟩
  go_wp2_with fail
  go_ret2
  exact ⟨rfl, hb.below⟩

set_option maxRecDepth 100000 in
set_option maxHeartbeats 1000000 in
theorem set_calls {base : Nat} {w : World} {g : Nat} {lv : Value} {mb : Nat} {h : List S38} {last : Int} (a : Ax base w g lv mb h last) (at_ : Int) (h0 : 0 ≤ at_) (h1 : at_ ≤ 1099511627776) (hl0 : 0 ≤ last) (hl1 : last < 1000000000) (hlen : h.length < 4096)
    (hids : ∀ j : Nat, j < h.length → (rd_T38 h j).f1 ≤ last) :
    Calls Try.prog 14 #[.pointer (some ⟨g, 0, none⟩), .int .i64 at_] w fun e w' => e = .returned (.tuple #[.int .i64 (last + 1), .int .i64 0]) ∧
      ∃ lv', Ax base w' g lv' mb (riseF (h ++ [⟨at_, last + 1⟩]) h.length) (last + 1) ∧ Fr g lv mb w w' ∧ (∀ j, j < w.heap.size → lv'.ownBlock = some j → lv.ownBlock = some j) := by
  have hf : alarm_right.f at_ = some true := by
    unfold alarm_right.f
    simp [h0, h1]
  obtain ⟨i0, hi, hz0, hz1, hz2⟩ := info_parts info38
  obtain ⟨D, a, p⟩ := a
  have QA := Aside0.mk a
  have QP := Aside0.mk p
  clear a p
  have QI := Aside0.mk hids
  clear hids
  go_enter Try.func14, Try.ntmps14
  go_wp2_with fail
  refine (alarm_right.calls at_ true w hf).mono ?_
  rintro e w1 ⟨rfl, hb0⟩
  have hb := hb0.below
  clear hb0
  have QA1 := Aside0.mk (QA.out.below hb)
  have QF1 := Aside0.mk ((Fr.refl g lv mb w).below hb)
  have hsz := hb.size
  clear hb
  have c0 := QA1.out.c0
  have c2 := QA1.out.c2
  have fz0 := QA1.out.fz 0
  have fz2 := QA1.out.fz 2
  have lg := QA1.out.lt
  have bg := QA1.out.hg
  obtain ⟨A, cap, hlv, hcap⟩ := own_val QA1.out.row
  have HLV := Aside0.mk hlv
  rw [hlv] at c0
  clear hlv
  have QA2 := Aside0.mk (QA1.out.setLast (last + 1))
  have QF2 := Aside0.mk (QF1.out.setCell (p := ⟨g, 2, none⟩) (.inl rfl) (.int .i64 (last + 1)))
  have hrow := QA2.out.row
  rw [HLV.out] at hrow
  have HR := Aside0.mk hrow
  clear hrow
  go_wp2_with (at_builtin; refine wpList_append_own_at _ rfl _ _ 43 rfl base 38 i0 (.agg #[.int .i64 0, .int .i64 0]) 2 16 Try.underlying43 hi hz0 hz1 hz2 rfl (by decide) _ h.length (cells2 h) rfl (HR.out.alloc _) ⟨w1.heap.size, 0, none⟩ 1 1 [.int .i64 0, .int .i64 0] rfl rfl (two_new (by simp)) ?hn1 (by unfold maxLen; omega) (by omega) ?hn2 ?_)
  case hn1 => intro u hu; simp at hu; subst hu; rfl
  case hn2 => simp; omega
  intro v' w2 own2 gr2 _ loc2
  rw [← HLV.out] at gr2 loc2
  have A2 := QA2.out.alloc (.cells #[.int .i64 0, .int .i64 0] 38)
  have blk2 := A2.rowBlk gr2
  have c02 : w2.cell? ⟨g, 0, none⟩ = some lv := by simp [World.cell?, blk2]
  rw [HLV.out] at c02
  have fz02 : w2.frozen? ⟨g, 0, none⟩ = false := by simp [World.frozen?, blk2]
  have r2 : w2.ownsRow base 38 2 v' (h ++ [(⟨0, 0⟩ : S38)]).length (cells2 (h ++ [⟨0, 0⟩])) := by
    simpa [cells2] using own2
  have A3 := A2.setRow gr2 r2
  have F2 := (QF2.out.alloc (.cells #[.int .i64 0, .int .i64 0] 38)).grown gr2 (fun j e => .inr (.inl e.symm))
  have F3 := F2.setCell (p := ⟨g, 0, none⟩) (.inl rfl) v'
  obtain ⟨A', cap', hv', hcap'⟩ := own_val r2
  subst hv'
  have hl3 : (h ++ [(⟨0, 0⟩ : S38)]).length = h.length + 1 := by simp
  rw [hl3] at hcap' A3 F3 own2 loc2 ⊢
  have QA3 := Aside0.mk A3
  have QF3 := Aside0.mk F3
  have hnew : ∀ j, j < w.heap.size → (Value.slice A' (h.length + 1) cap').ownBlock = some j → lv.ownBlock = some j := by
    intro j hj e
    rcases loc2 with h2 | h2
    · rw [← h2]; exact e
    · rw [h2] at e
      injection e with e
      omega
  have QL2 := Aside0.mk hnew
  clear hnew
  have HL3 := Aside0.mk hl3
  have hs12 := gr2.size
  simp only [World.size_alloc, World.size_setCell] at hs12
  clear A2 blk2 A3 F2 F3 own2 gr2 loc2 r2 hl3 c0 c2 fz0 fz2 QA1 QF1 QA2 QF2 HR hi hz0 hz1 hz2
  go_wp2_with fail
  have hs3 : (w2.setCell ⟨g, 0, none⟩ (.slice A' (h.length + 1) cap')).heap.size = w2.heap.size := by simp
  generalize w2.setCell ⟨g, 0, none⟩ (.slice A' (h.length + 1) cap') = w3 at QA3 QF3 hs3 ⊢
  have HS3 := Aside0.mk hs3
  clear hs3 c02 fz02
  refine wp_region_still_tail' 13 (by kernel_rfl) (by kernel_rfl) ?_
  intro wd hwd
  have QD := Aside0.mk QA3.out.drew
  have QG := Aside0.mk QF3.out.drew
  rw [hwd] at QD QG
  have hsd : wd.heap.size = w3.heap.size := by rw [← hwd]; rfl
  have HSD := Aside0.mk hsd
  clear hwd hsd QA3 QF3
  have c0 := QD.out.c0
  have c2 := QD.out.c2
  simp only [List.take_succ_cons, List.take_zero, List.drop_succ_cons, List.drop_zero]
  iterate 13 (refine wpStill_step (fun K hK => ?_); have HK := Aside0.mk hK; clear hK; go_simp; refine HK.out _ ?_; clear HK K)
  refine wpStill_nil ?_
  go_wp2_with fail
  refine (lay_calls QD.out h.length (by rw [HL3.out]; omega) ⟨at_, last + 1⟩ (by simp; omega) (by simp; omega) (by have := QP.out.len; omega) (by rw [HL3.out]; omega)).mono ?_
  rintro e w4 ⟨rfl, A4, F4⟩
  rw [set_snoc] at A4
  have P4 := QP.out.push (QA.out.map.tidy keyed3) ⟨at_, last + 1⟩ (by simp; omega) (by simp; omega) (fun j hj e => by have := QI.out j hj; simp at e; omega) (by omega)
  have hl4 : (h ++ [(⟨at_, last + 1⟩ : S38)]).length = h.length + 1 := by simp
  have QA4 := Aside0.mk (A4.ax P4)
  have QF4 := Aside0.mk (QG.out.trans F4 QL2.out)
  have c04 := A4.c0
  have HL4 := Aside0.mk hl4
  clear A4 F4 P4 c0 c2 QD QG hl4
  go_wp2_with fail
  have hx : ((h.length : Int) + 1 - 1) = (h.length : Int) := by omega
  try rw [hx]
  refine (rise_calls QA4.out h.length (by rw [HL4.out]; omega)).mono ?_
  rintro e w5 ⟨rfl, A5, F5⟩
  have c2 := A5.choose_spec.1.c2
  have QA5 := Aside0.mk A5
  have QF5 := Aside0.mk (QF4.out.trans F5 QL2.out)
  clear A5 F5 QA4 QF4 c04 hx
  go_wp2_with fail
  go_ret2
  exact ⟨rfl, _, QA5.out, QF5.out, QL2.out⟩

set_option maxHeartbeats 400000 in
theorem move_none {base : Nat} {w : World} {g : Nat} {lv : Value} {mb : Nat} {h : List S38} {last : Int} (a : Ax base w g lv mb h last) (i at_ : Int) (hw : (Lit.int .i64 i).wf = true) (hn : ∀ j : Nat, j < h.length → (rd_T38 h j).f1 ≠ i) :
    Calls Try.prog 21 #[.pointer (some ⟨g, 0, none⟩), .int .i64 i, .int .i64 at_] w fun e w' => e = .returned (.bool false) ∧ Below w.heap.size w w' := by
  obtain ⟨D, a, p⟩ := a
  have c1 := a.c1
  rcases p.look i with ⟨_, j, hj, e, _⟩ | ⟨h1, h2, _⟩
  · exact absurd e (hn j hj)
  obtain ⟨c, hrun, hc⟩ := look_run a i hw
  rw [h1] at hrun
  clear hc h1 h2 hn a p
  go_enter Try.func21, Try.ntmps21
  go_wp2_with fail
  go_ret
  exact ⟨rfl, Below.refl _ _⟩

set_option maxHeartbeats 400000 in
theorem move_wrong {base : Nat} {w : World} {g : Nat} {lv : Value} {mb : Nat} {h : List S38} {last : Int} (a : Ax base w g lv mb h last) (j : Nat) (hj : j < h.length) (at_ : Int) (hat : ¬ (0 ≤ at_ ∧ at_ ≤ 1099511627776)) :
    Calls Try.prog 21 #[.pointer (some ⟨g, 0, none⟩), .int .i64 (rd_T38 h j).f1, .int .i64 at_] w fun e w' => e = .returned (.bool false) ∧ Below w.heap.size w w' := by
  have hf : alarm_right.f at_ = some false := by
    unfold alarm_right.f
    by_cases h0 : 0 ≤ at_
    · simp [h0]; omega
    · simp [h0]
  obtain ⟨D, a, p⟩ := a
  have c1 := a.c1
  have hid := p.id j hj
  obtain ⟨q, hrun, hq⟩ := look_run a (rd_T38 h j).f1 (WalkArith.wf_i64 (by omega))
  rw [(p.at_ j hj).1] at hrun
  clear hq a p hid hat
  go_enter Try.func21, Try.ntmps21
  go_wp2_with fail
  refine (alarm_right.calls at_ false w hf).mono ?_
  rintro e w1 ⟨rfl, hb0⟩
  have hb := hb0.below
  clear hb0 hrun c1
  go_wp2_with fail
  go_ret
  exact ⟨rfl, hb⟩

/-- One is for another tick. -/
def atF (h : List S38) (j : Nat) (at_ : Int) : List S38 := h.set j ⟨at_, (rd_T38 h j).f1⟩
theorem atF_id (h : List S38) (j : Nat) (at_ : Int) (i : Nat) : (rd_T38 (atF h j at_) i).f1 = (rd_T38 h i).f1 := by
  unfold atF
  rw [rd_set]
  split
  · rename_i e; rw [e.1]
  · rfl
theorem atF_length (h : List S38) (j : Nat) (at_ : Int) : (atF h j at_).length = h.length := by simp [atF]
theorem Pos.moved {h : List S38} {D : D0} (p : Pos h D) (j : Nat) (at_ : Int) : Pos (atF h j at_) D :=
  ⟨by rw [atF_length]; exact p.len, by rw [atF_length]; exact p.few, fun i hi => by rw [atF_id]; exact p.id i (by rw [atF_length] at hi; exact hi),
    fun i hi => by rw [atF_id]; exact p.at_ i (by rw [atF_length] at hi; exact hi), fun x hx => by
      obtain ⟨i, hi, e⟩ := p.only x hx
      exact ⟨i, by rw [atF_length]; exact hi, by rw [atF_id]; exact e⟩⟩
theorem mem_rd {h : List S38} {x : S38} : x ∈ h ↔ ∃ j : Nat, j < h.length ∧ rd_T38 h j = x := by
  constructor
  · intro hx
    obtain ⟨j, hj, e⟩ := List.getElem_of_mem hx
    exact ⟨j, hj, by simp [rd_T38, hj, e]⟩
  · rintro ⟨j, hj, rfl⟩
    simp [rd_T38, hj]
theorem mem_swp (h : List S38) (i k : Nat) (hi : i < h.length) (hk : k < h.length) (x : S38) : x ∈ swp h i k ↔ x ∈ h := by
  rw [mem_rd, mem_rd, swp_length]
  constructor
  · rintro ⟨j, hj, rfl⟩
    rw [rd_swp h i k hi hk]
    split
    · exact ⟨i, hi, rfl⟩
    · split
      · exact ⟨k, hk, rfl⟩
      · exact ⟨j, hj, rfl⟩
  · rintro ⟨j, hj, rfl⟩
    by_cases e1 : j = i
    · exact ⟨k, hk, by rw [rd_swp h i k hi hk]; simp [e1]⟩
    · by_cases e2 : j = k
      · refine ⟨i, hi, ?_⟩
        rw [rd_swp h i k hi hk]
        by_cases e3 : i = k
        · omega
        · simp [e3, e2]
      · exact ⟨j, hj, by rw [rd_swp h i k hi hk]; simp [e1, e2]⟩
theorem mem_riseF (x : S38) (k : Nat) : ∀ h : List S38, k < h.length → (x ∈ riseF h k ↔ x ∈ h) := by
  induction k using Nat.strongRecOn with
  | _ k ih =>
    intro h hk
    rw [riseF]
    split
    · split
      · rw [ih _ (by omega) _ (by rw [swp_length]; omega), mem_swp _ _ _ hk (by omega)]
      · rfl
    · rfl
theorem mem_sinkF (x : S38) (h : List S38) (k : Nat) : x ∈ sinkF h k ↔ x ∈ h := by
  induction hn : h.length - k using Nat.strongRecOn generalizing h k with
  | _ n ih =>
    by_cases hc : bestF h k 2 ≠ k ∧ k < h.length
    · rw [sinkF_go h k hc.2 hc.1]
      have h1 := bestF_ge h k 2
      have h2 := bestF_lt h k hc.2 2
      rw [ih _ (by rw [swp_length]; omega) _ _ rfl, mem_swp _ _ _ hc.2 h2]
    · rw [sinkF, dif_neg hc]

/-- Only the tick of an element is written. -/
theorem Al.setAt {base : Nat} {w : World} {g mb b n c : Nat} {h : List S38} {D : D0} {last : Int} (a : Al base w g (.slice (some ⟨b, 0, none⟩) n c) mb h D last) (i : Nat) (hi : i < h.length) (at_ : Int) :
    Al base (w.setCell ⟨b, i * 2, none⟩ (.int .i64 at_)) g (.slice (some ⟨b, 0, none⟩) n c) mb (atF h i at_) D last := by
  have hne := a.rowNe
  obtain ⟨cur, hh⟩ := own_block a.row
  have hm := a.mapNe hh
  refine ⟨a.hg, ?_, ?_, a.hm, a.map.setCell hm _⟩
  · rw [Below.heap_setCell _ _ _ _ (Ne.symm hne)]
    exact a.blk
  · refine ⟨by rw [cells2_length], ?_⟩
    rcases a.row.2 with ⟨h0, _⟩ | ⟨b', cap, cur, e, hb, hh, hc, hm, hs, ht⟩
    · cases h0
    · injection e with e1 e2 e3; injection e1 with e1; injection e1 with e1; subst e1 e2 e3
      refine .inr ⟨b, c, cur.setIfInBounds (i * 2) (.int .i64 at_), by rw [atF_length], hb, heap_setCell_at hh _, by rw [atF_length]; exact hc, hm, by simpa using hs, ?_⟩
      unfold atF
      rw [cells2_set, List.length_set, ← ht]
      simp only [Array.toList_setIfInBounds, List.take_set]
      have g1 := (cells2_get h i hi).2
      rw [← ht] at g1
      refine (List.ext_getElem? fun q => ?_).symm
      by_cases e : q = i * 2 + 1
      · subst e
        rw [List.getElem?_set_self' , List.getElem?_set_ne (by omega), g1]
        simp [rd_T38]
      · rw [List.getElem?_set_ne (Ne.symm e)]

set_option maxRecDepth 100000 in
set_option maxHeartbeats 1000000 in
theorem move_calls {base : Nat} {w : World} {g : Nat} {lv : Value} {mb : Nat} {h : List S38} {last : Int} (a : Ax base w g lv mb h last) (j : Nat) (hj : j < h.length) (at_ : Int) (h0 : 0 ≤ at_) (h1 : at_ ≤ 1099511627776) :
    Calls Try.prog 21 #[.pointer (some ⟨g, 0, none⟩), .int .i64 (rd_T38 h j).f1, .int .i64 at_] w fun e w' => e = .returned (.bool true) ∧
      ∃ q : Nat, q < h.length ∧ (rd_T38 (riseF (atF h j at_) j) q).f1 = (rd_T38 h j).f1 ∧ Ax base w' g lv mb (sinkF (riseF (atF h j at_) j) q) last ∧ Fr g lv mb w w' := by
  have hf : alarm_right.f at_ = some true := by
    unfold alarm_right.f
    simp [h0, h1]
  obtain ⟨D, a, p⟩ := a
  have QA := Aside0.mk a
  have QP := Aside0.mk p
  have c1 := a.c1
  have hid := p.id j hj
  obtain ⟨q, hrun, hq⟩ := look_run a (rd_T38 h j).f1 (WalkArith.wf_i64 (by omega))
  rw [(p.at_ j hj).1] at hrun
  rw [(p.at_ j hj).2] at hq
  obtain rfl : (j : Int) = q := by injection hq with hq; injection hq with _ hq
  clear hq a p
  obtain ⟨x, hx⟩ : ∃ x, x = (rd_T38 h j).f1 := ⟨_, rfl⟩
  rw [← hx] at hrun hid ⊢
  have HX := Aside0.mk hx
  clear hx
  go_enter Try.func21, Try.ntmps21
  go_wp2_with fail
  refine (alarm_right.calls at_ true w hf).mono ?_
  rintro e w1 ⟨rfl, hb0⟩
  have hb := hb0.below
  have QA1 := Aside0.mk (QA.out.below hb)
  have QF1 := Aside0.mk ((Fr.refl g lv mb w).below hb)
  clear hb0 hrun c1 hb
  obtain ⟨b, c, e, _, hc, lb, e0, e1, fz⟩ := own_at QA1.out.row j hj
  subst e
  have c0 := QA1.out.c0
  have fz0 := fz (j * 2)
  clear fz
  go_wp2_with fail
  have A2 := QA1.out.setAt j hj at_
  have P2 := QP.out.moved j at_
  have F2 := QF1.out.setCell (p := ⟨b, j * 2, none⟩) (.inr (.inl rfl)) (.int .i64 at_)
  refine (rise_calls (A2.ax P2) j (by rw [atF_length]; exact hj)).mono ?_
  rintro e w3 ⟨rfl, A3, F3⟩
  have HF3 := Aside0.mk (F2.then_ F3)
  have QA3 := Aside0.mk A3
  obtain ⟨D3, B3, P3⟩ := A3
  have hm : rd_T38 (atF h j at_) j ∈ riseF (atF h j at_) j := (mem_riseF _ _ _ (by rw [atF_length]; exact hj)).2 (mem_rd.2 ⟨j, by rw [atF_length]; exact hj, rfl⟩)
  obtain ⟨q, hq, eq⟩ := mem_rd.1 hm
  have hqx : (rd_T38 (riseF (atF h j at_) j) q).f1 = x := by rw [eq, atF_id, HX.out]
  have hlq : q < h.length := by rw [riseF_length, atF_length] at hq; exact hq
  obtain ⟨r, hrun, hr, _⟩ := (B3.map).lookup_int keyed3 Try.underlying48 Try.underlying3 (zero3 w3) (keyOf_int_mk Try.underlying3 (WalkArith.wf_i64 (n := x) (by omega)))
  have h5 := (P3.at_ q hq).2 zl
  rw [hqx] at h5
  have hr2 : (DataW.lit (.int .i64 r) : D0) = .lit (.int .i64 q) := hr.symm.trans h5
  obtain rfl : r = (q : Int) := by injection hr2 with hr2; injection hr2 with _ hr2
  have c13 := B3.c1
  have HQ := Aside0.mk hqx
  clear hm eq hr h5 hr2 B3 P3 A2 P2 F2 F3 hqx c0 e0 e1 fz0 QA1 QF1
  go_wp2_with fail
  refine (sink_calls QA3.out q hq).mono ?_
  rintro e w4 ⟨rfl, A4, F4⟩
  have QA4 := Aside0.mk A4
  have QF4 := Aside0.mk (HF3.out.then_ F4)
  clear A4 F4 QA3 HF3
  go_wp2_with fail
  go_ret
  exact ⟨rfl, q, hlq, HQ.out, QA4.out, QF4.out⟩
end Go.Proofs.Ytpfoefmcjbdeeaa
