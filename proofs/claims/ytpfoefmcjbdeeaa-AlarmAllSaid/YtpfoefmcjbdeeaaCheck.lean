/-
  Check: it is a heap, and the map tells the places.
-/
import Derived.Test.YtpfoefmcjbdeeaaTake
namespace Go.Proofs.Ytpfoefmcjbdeeaa
open Go.RowKit Go.Maps Go.Proofs.YtpfoefmcjbdeeaaW.PrintWords Go.Proofs.YtpfoefmcjbdeeaaW.PrintLast Go.Proofs.YtpfoefmcjbdeeaaW.PrintMore
open Go.Proofs.Ytpfoefmcjbdeeaa.PAlarmAll

/-- No element is ahead of its parent. -/
def HeapOk (h : List S38) : Prop := ∀ k : Nat, 0 < k → k < h.length → ahd (rd_T38 h k) (rd_T38 h ((k - 1) / 2 : Nat)) = false

set_option maxRecDepth 100000 in
set_option maxHeartbeats 2000000 in
theorem check_calls {base : Nat} {w : World} {g : Nat} {lv : Value} {mb : Nat} {h : List S38} {last : Int} (a : Ax base w g lv mb h last) (ok : HeapOk h) :
    Calls Try.prog 13 #[.pointer (some ⟨g, 0, none⟩)] w fun e w' => e = .returned (.bool true) ∧ Below w.heap.size w w' := by
  obtain ⟨D, a, p⟩ := a
  have QA := Aside0.mk a
  have QP := Aside0.mk p
  have hfew := p.few
  have OK := Aside0.mk ok
  have c0 := a.c0
  obtain ⟨A, cap, hlv, hcap⟩ := own_val a.row
  rw [hlv] at c0
  have HLV := Aside0.mk hlv
  clear a p ok hlv
  go_enter Try.func13, Try.ntmps13
  go_wp2_with fail
  go_loopg [12] h.length (fun n c wr => ∃ k : Nat, c = .int .i64 k ∧ Aside0 (n + k = h.length) ∧ Aside0 (Below w.heap.size w wr))
  case atStart => exact ⟨0, by go_num, ⟨by omega⟩, ⟨Below.refl _ _⟩⟩
  case round =>
    obtain ⟨k, rfl, hk, HB⟩ := hrel
    clear c0
    have QA1 := Aside0.mk (QA.out.below HB.out)
    by_cases hlt : k < h.length
    · obtain ⟨b, c, e, _, hc, lb, e0, e1, fz⟩ := own_at QA1.out.row k hlt
      have hA : A = some ⟨b, 0, none⟩ := by have h1 := HLV.out.symm.trans e; injection h1
      subst hA
      clear fz e
      go_wp2_with fail
      have QA2 := Aside0.mk (QA1.out.alloc (.cells #[.int .i64 (rd_T38 h k).f0, .int .i64 (rd_T38 h k).f1] 38))
      have HB2 := Aside0.mk (below_alloc HB.out (.cells #[.int .i64 (rd_T38 h k).f0, .int .i64 (rd_T38 h k).f1] 38))
      have q0 : (wr.alloc (.cells #[.int .i64 (rd_T38 h k).f0, .int .i64 (rd_T38 h k).f1] 38)).cell? ⟨wr.heap.size, 0, none⟩ = some (.int .i64 (rd_T38 h k).f0) := by simp
      have q1 : (wr.alloc (.cells #[.int .i64 (rd_T38 h k).f0, .int .i64 (rd_T38 h k).f1] 38)).cell? ⟨wr.heap.size, 1, none⟩ = some (.int .i64 (rd_T38 h k).f1) := by simp
      generalize wr.alloc (.cells #[.int .i64 (rd_T38 h k).f0, .int .i64 (rd_T38 h k).f1] 38) = w1 at QA2 HB2 q0 q1 ⊢
      have c1 := QA2.out.c1
      have hid := QP.out.id k hlt
      obtain ⟨q, hrun, hq⟩ := look_run QA2.out.drew (rd_T38 h k).f1 (WalkArith.wf_i64 (by omega))
      rw [(QP.out.at_ k hlt).1] at hrun
      rw [(QP.out.at_ k hlt).2] at hq
      obtain rfl : (k : Int) = q := by injection hq with hq; injection hq with _ hq
      have HID := Aside0.mk hid
      clear hq hid e0 e1
      go_region
      go_wp2_with fail
      clear hrun c1
      have QA3 := Aside0.mk QA2.out.drew
      have HB3 := Aside0.mk (below_drew HB2.out)
      have q0' : w1.drew.cell? ⟨wr.heap.size, 0, none⟩ = some (.int .i64 (rd_T38 h k).f0) := q0
      have q1' : w1.drew.cell? ⟨wr.heap.size, 1, none⟩ = some (.int .i64 (rd_T38 h k).f1) := q1
      generalize w1.drew = w2 at QA3 HB3 q0' q1' ⊢
      clear q0 q1 QA2 HB2
      by_cases hpos : 0 < k
      · obtain ⟨z, hz⟩ : ∃ z : Nat, z = (k - 1) / 2 := ⟨_, rfl⟩
        have HZ := Aside0.mk hz
        have ce : (((k : Int) - 1) / 2) = (z : Int) := by omega
        have CE := Aside0.mk ce
        have hzl : z < h.length := by omega
        clear hz ce
        refine wp_region_still_tail' 21 (by kernel_rfl) (by kernel_rfl) ?_
        intro wd hwd
        have QD := Aside0.mk QA3.out.drew
        have HD := Aside0.mk (below_drew HB3.out)
        have d0 : w2.drew.cell? ⟨wr.heap.size, 0, none⟩ = some (.int .i64 (rd_T38 h k).f0) := q0'
        have d1 : w2.drew.cell? ⟨wr.heap.size, 1, none⟩ = some (.int .i64 (rd_T38 h k).f1) := q1'
        rw [hwd] at QD HD d0 d1
        clear hwd q0' q1' QA3 HB3
        obtain ⟨b', c', e, _, _, _, f0, f1, _⟩ := own_at QD.out.row z hzl
        have hA : b = b' := by have h1 := HLV.out.symm.trans e; injection h1 with h1; injection h1 with h1; injection h1
        subst hA
        have c0 := QD.out.c0
        have HE := Aside0.mk e
        rw [HLV.out] at c0
        clear e
        simp only [List.take_succ_cons, List.take_zero, List.drop_succ_cons, List.drop_zero]
        have hw1 : IntKind.i64.wrap ((k : Int) - 1) = ((k - 1 : Nat) : Int) := by rw [i64_w]; unfold wrap64; omega
        have hw2 : IntKind.i64.wrap (((k - 1 : Nat) : Int) / 2) = (z : Int) := by
          have := HZ.out
          rw [i64_w]
          unfold wrap64
          omega
        have W1 := Aside0.mk hw1
        have W2 := Aside0.mk hw2
        clear hw1 hw2
        iterate 18 (refine wpStill_step (fun K hK => ?_); have HK := Aside0.mk hK; clear hK; go_simp; refine HK.out _ ?_; clear HK K)
        rw [W1.out]
        (refine wpStill_step (fun K hK => ?_); have HK := Aside0.mk hK; clear hK; go_simp; refine HK.out _ ?_; clear HK K)
        rw [W2.out]
        iterate 2 (refine wpStill_step (fun K hK => ?_); have HK := Aside0.mk hK; clear hK; go_simp; refine HK.out _ ?_; clear HK K)
        refine wpStill_nil ?_
        go_wp2_with fail
        have hah := OK.out k hpos hlt
        rw [← HZ.out] at hah
        refine (alarm_ahead.calls _ _ _ _ _ wd ((ahd_f (rd_T38 h k) (rd_T38 h z)).trans (congrArg some hah))).mono ?_
        rintro e w3 ⟨rfl, hb3⟩
        have HB4 := Aside0.mk (below_then HD.out HD.out.size hb3)
        clear hb3 hah d0 d1 c0 f0 f1 QD HD
        go_wp2_with fail
        go_roundg (gk - 1)
        case measure => have := hk.out; omega
        case rel => exact ⟨k + 1, by go_num, ⟨by have := hk.out; omega⟩, HB4⟩
      · obtain rfl : k = 0 := by omega
        have HK := Aside0.mk hk
        simp only [Int.natCast_zero] at *
        go_wp2_with fail
        go_quiet (fail)
        go_wp2_with fail
        have HB4 := Aside0.mk (pw_below_drewN HB3.out nq)
        go_roundg (gk - 1)
        case measure => have := hk.out; omega
        case rel => exact ⟨1, by go_num, ⟨by have := hk.out; omega⟩, HB4⟩
    · have c0 := QA1.out.c0
      rw [HLV.out] at c0
      have c1 := QA1.out.c1
      have hrun := (QA1.out.drew.map).len Try.underlying48 3
      rw [QP.out.len] at hrun
      go_wp2_with fail
      go_region
      go_wp2_with fail
      go_ret
      exact ⟨rfl, below_drew HB.out⟩
end Go.Proofs.Ytpfoefmcjbdeeaa
