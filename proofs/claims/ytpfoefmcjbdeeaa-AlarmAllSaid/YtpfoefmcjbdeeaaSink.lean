/-
  sink.
-/
import Derived.Test.YtpfoefmcjbdeeaaRise
namespace Go.Proofs.Ytpfoefmcjbdeeaa
open Go.RowKit Go.Maps Go.Proofs.YtpfoefmcjbdeeaaW.PrintWords Go.Proofs.YtpfoefmcjbdeeaaW.PrintLast Go.Proofs.YtpfoefmcjbdeeaaW.PrintMore
open Go.Proofs.Ytpfoefmcjbdeeaa.PAlarmAll

/-- The best of k and of its first j kids. -/
def bestF (h : List S38) (k : Nat) : Nat → Nat
  | 0 => k
  | j + 1 => if 2 * k + 1 + j < h.length ∧ ahd (rd_T38 h (2 * k + 1 + j : Nat)) (rd_T38 h (bestF h k j : Nat)) = true then 2 * k + 1 + j else bestF h k j
theorem bestF_lt (h : List S38) (k : Nat) (hk : k < h.length) : ∀ j, bestF h k j < h.length
  | 0 => hk
  | j + 1 => by
    unfold bestF
    split
    · rename_i c; exact c.1
    · exact bestF_lt h k hk j
theorem bestF_ge (h : List S38) (k : Nat) : ∀ j, k ≤ bestF h k j
  | 0 => Nat.le_refl _
  | j + 1 => by
    unfold bestF
    split
    · omega
    · exact bestF_ge h k j
theorem bestF_out (h : List S38) (k j : Nat) (hj : h.length ≤ 2 * k + 1 + j) : bestF h k (j + 1) = bestF h k j := by
  rw [bestF, if_neg (by omega)]
theorem bestF_2 (h : List S38) (k j : Nat) (hj : h.length ≤ 2 * k + 1 + j ∨ j = 2) (hl : j ≤ 2) : bestF h k 2 = bestF h k j := by
  have : j = 0 ∨ j = 1 ∨ j = 2 := by omega
  rcases this with rfl | rfl | rfl
  · rw [bestF_out h k 1 (by omega), bestF_out h k 0 (by omega)]
  · rw [bestF_out h k 1 (by omega)]
  · rfl

/-- What sink makes of the heap. -/
def sinkF (h : List S38) (k : Nat) : List S38 :=
  if _hc : bestF h k 2 ≠ k ∧ k < h.length then sinkF (swp h k (bestF h k 2)) (bestF h k 2) else h
termination_by h.length - k
decreasing_by
  rw [swp_length]
  have := bestF_ge h k 2
  have := bestF_lt h k _hc.2 2
  omega
theorem sinkF_stop (h : List S38) (k : Nat) (hb : bestF h k 2 = k) : sinkF h k = h := by rw [sinkF, dif_neg (by simp [hb])]
theorem sinkF_go (h : List S38) (k : Nat) (hk : k < h.length) (hb : bestF h k 2 ≠ k) : sinkF h k = sinkF (swp h k (bestF h k 2)) (bestF h k 2) := by rw [sinkF, dif_pos ⟨hb, hk⟩]

set_option maxRecDepth 100000 in
set_option maxHeartbeats 4000000 in
theorem sink_calls {base : Nat} {w : World} {g : Nat} {lv : Value} {mb : Nat} {h : List S38} {last : Int} (a : Ax base w g lv mb h last) (k : Nat) (hk : k < h.length) :
    Calls Try.prog 33 #[.pointer (some ⟨g, 0, none⟩), .int .i64 k] w fun e w' => e = .returned (.tuple #[]) ∧ Ax base w' g lv mb (sinkF h k) last ∧ Fr g lv mb w w' := by
  have QA := Aside0.mk a
  have hf0 : h.length < 900000 := by obtain ⟨_, _, p⟩ := a; exact p.few
  clear a
  go_enter Try.func33, Try.ntmps33
  go_wp2
  refine wp_scope_loop 0 (fun a' w' => ∃ (h' : List S38) (k' : Nat) (u2 u3 u4 u5 u6 u7 u8 u9 u10 u11 u12 u13 u14 u15 u16 u17 u18 u19 u20 u21 u22 u23 u24 u25 u26 u27 u28 u29 u30 u31 u32 u33 u34 u35 u36 u37 u38 u39 u40 u41 u42 u43 u44 u45 u46 u47 u48 u49 : Value), Aside0 (Ax base w' g lv mb h' last ∧ Fr g lv mb w w' ∧ k' < h'.length ∧ h'.length = h.length ∧ sinkF h' k' = sinkF h k) ∧ a' = { tmps := #[.pointer (some ⟨g, 0, none⟩), .int .i64 (k' : Int), u2, u3, u4, u5, u6, u7, u8, u9, u10, u11, u12, u13, u14, u15, u16, u17, u18, u19, u20, u21, u22, u23, u24, u25, u26, u27, u28, u29, u30, u31, u32, u33, u34, u35, u36, u37, u38, u39, u40, u41, u42, u43, u44, u45, u46, u47, u48, u49], defers := [] }) (fun a' _ => (1000000 - intOf (a'.tmps.getD 1 undef)).toNat) ?_ ?_
  · exact ⟨h, k, _, _, _, _, _, _, _, _, _, _, _, _, _, _, _, _, _, _, _, _, _, _, _, _, _, _, _, _, _, _, _, _, _, _, _, _, _, _, _, _, _, _, _, _, _, _, _, _, ⟨QA.out, Fr.refl _ _ _ _, hk, rfl, rfl⟩, rfl⟩
  · rintro a' w1 ⟨h', k', u2, u3, u4, u5, u6, u7, u8, u9, u10, u11, u12, u13, u14, u15, u16, u17, u18, u19, u20, u21, u22, u23, u24, u25, u26, u27, u28, u29, u30, u31, u32, u33, u34, u35, u36, u37, u38, u39, u40, u41, u42, u43, u44, u45, u46, u47, u48, u49, Q1, rfl⟩
    obtain ⟨hA, hF, hk', hl', hr⟩ := Q1.out
    have QA := Aside0.mk hA
    have QF := Aside0.mk hF
    have QR := Aside0.mk hr
    have QL := Aside0.mk hl'
    have hfew : h'.length < 900000 := by omega
    clear Q1 hA hF hr hl' hk hf0
    go_wp2
    go_loopg [4, 5] 2 (fun n b c wr => ∃ (j : Nat), Aside0 (n + j = 2) ∧ b = .int .i64 (bestF h' k' j : Nat) ∧ c = .int .i64 ((2 * k' + 1 + j : Nat) : Int) ∧ Aside0 (Ax base wr g lv mb h' last) ∧ Aside0 (Fr g lv mb w wr))
    case atStart => exact ⟨0, ⟨rfl⟩, rfl, by go_num, QA, QF⟩
    case round =>
      obtain ⟨j, hj, rfl, rfl, QA, QF⟩ := hrel
      obtain ⟨c, hc⟩ : ∃ c, c = 2 * k' + 1 + j := ⟨_, rfl⟩
      obtain ⟨b, hb⟩ : ∃ b, b = bestF h' k' j := ⟨_, rfl⟩
      have hbl : b < h'.length := by rw [hb]; exact bestF_lt h' k' hk' j
      have HB := Aside0.mk hb
      rw [← hb, ← hc]
      have HC := Aside0.mk hc
      clear hb hc
      have c0 := QA.out.choose_spec.1.c0
      have hsl := own_val QA.out.choose_spec.1.row
      obtain ⟨A, cap, hlv, hcap⟩ := hsl
      rw [hlv] at c0
      have HL := Aside0.mk hlv
      clear hlv
      by_cases hgo : c ≤ 2 * k' + 2 ∧ c < h'.length
      · obtain ⟨hc2, hcl⟩ := hgo
        go_wp2
        clear c0 hcap HL
        refine wp_region_still_tail' 14 (by kernel_rfl) (by kernel_rfl) ?_
        intro wd hwd
        have QD := Aside0.mk QA.out.choose_spec.1.drew
        have QG := Aside0.mk QF.out.drew
        have P1 := Aside0.mk QA.out.choose_spec.2
        rw [hwd] at QD QG
        generalize QA.out.choose = D at QD P1
        clear QA QF hwd
        obtain ⟨bb, cc, e, _, hcc, lb, e0, e1, _⟩ := own_at QD.out.row c hcl
        obtain ⟨b', c', e', _, _, _, f0, f1, _⟩ := own_at QD.out.row b hbl
        subst e
        injection e' with e' e2 e3; injection e' with e'; injection e' with e'; subst e' e3
        clear e2
        have c0 := QD.out.c0
        have lg := QD.out.lt
        simp only [List.take_succ_cons, List.take_zero, List.drop_succ_cons, List.drop_zero]
        iterate 14 (refine wpStill_step (fun K hK => ?_); have HK := Aside0.mk hK; clear hK; go_simp; refine HK.out _ ?_; clear HK K)
        refine wpStill_nil ?_
        go_wp2_with fail
        refine (alarm_ahead.calls _ _ _ _ _ wd (ahd_f (rd_T38 h' c) (rd_T38 h' b))).mono ?_
        rintro e w2 ⟨rfl, hb2⟩
        have QD2 := Aside0.mk ((QD.out.below hb2).ax P1.out)
        have QG2 := Aside0.mk (QG.out.below hb2)
        clear c0 lg e0 e1 f0 f1 hb2 QD QG hcc lb
        have hj1 : 1 ≤ gk := by have := HC.out; have := hj.out; omega
        cases hah : ahd (rd_T38 h' c) (rd_T38 h' b) with
        | true =>
          have HA := Aside0.mk hah
          clear hah
          go_wp2_with fail
          go_roundg (gk - 1)
          case measure => omega
          case rel => exact ⟨j + 1, ⟨by have := hj.out; omega⟩, by rw [bestF, if_pos ⟨by have := HC.out; omega, by rw [← HC.out, ← HB.out]; exact HA.out⟩, ← HC.out], by have := HC.out; subst this; go_num, QD2, QG2⟩
        | false =>
          have HA := Aside0.mk hah
          clear hah
          go_wp2_with fail
          go_roundg (gk - 1)
          case measure => omega
          case rel => exact ⟨j + 1, ⟨by have := hj.out; omega⟩, by rw [bestF, if_neg (by rw [← HC.out, ← HB.out, HA.out]; simp), ← HB.out], by have := HC.out; subst this; go_num, QD2, QG2⟩
      · have hb2 : bestF h' k' 2 = b := by
          rw [HB.out]
          have := HC.out
          have := hj.out
          exact bestF_2 h' k' j (by omega) (by omega)
        have hbg : k' ≤ b := by rw [HB.out]; exact bestF_ge h' k' j
        by_cases hbk : b = k'
        · have hb3 : bestF h' k' 2 = k' := by rw [hb2, hbk]
          have HB2 := Aside0.mk hb3
          have hn : ((b : Int) != (k' : Int)) = false := by simp [hbk]
          clear hb2 hb3 hbk hbg
          by_cases hc2 : c ≤ 2 * k' + 2
          · have hc3 : ¬ c < h'.length := by omega
            clear hgo
            go_wp2_with fail
            simp only [Exit.jump]
            go_end0
            exact ⟨rfl, by rw [← QR.out, sinkF_stop _ _ HB2.out]; exact QA.out, QF.out⟩
          · clear hgo
            go_wp2_with fail
            simp only [Exit.jump]
            go_end0
            exact ⟨rfl, by rw [← QR.out, sinkF_stop _ _ HB2.out]; exact QA.out, QF.out⟩
        · have HB2 := Aside0.mk hb2
          have HBN := Aside0.mk hbk
          have hn : ((b : Int) != (k' : Int)) = true := by simp; omega
          have HBK := Aside0.mk (show k' < b by omega)
          clear hb2 hbk hbg
          by_cases hc2 : c ≤ 2 * k' + 2
          · have hc3 : ¬ c < h'.length := by omega
            clear hgo
            go_wp2_with fail
            refine (ax_swap QA.out k' b hk' hbl).mono ?_
            rintro e w3 ⟨rfl, A3, F3⟩
            have QA3 := Aside0.mk A3
            have QF3 := Aside0.mk (QF.out.then_ F3)
            clear A3 F3 QF QA c0
            go_wp2_with fail
            go_step3
            refine ⟨rfl, ⟨swp h' k' b, b, _, _, _, _, _, _, _, _, _, _, _, _, _, _, _, _, _, _, _, _, _, _, _, _, _, _, _, _, _, _, _, _, _, _, _, _, _, _, _, _, _, _, _, _, _, _, _, _, ⟨QA3.out, QF3.out, by rw [swp_length]; exact hbl, by rw [swp_length]; exact QL.out, ?_⟩, rfl⟩, by simp [intOf]; have := HBK.out; omega⟩
            rw [← QR.out, sinkF_go _ _ hk' (by rw [HB2.out]; exact fun e => HBN.out e), HB2.out]
          · clear hgo
            go_wp2_with fail
            refine (ax_swap QA.out k' b hk' hbl).mono ?_
            rintro e w3 ⟨rfl, A3, F3⟩
            have QA3 := Aside0.mk A3
            have QF3 := Aside0.mk (QF.out.then_ F3)
            clear A3 F3 QF QA c0
            go_wp2_with fail
            go_step3
            refine ⟨rfl, ⟨swp h' k' b, b, _, _, _, _, _, _, _, _, _, _, _, _, _, _, _, _, _, _, _, _, _, _, _, _, _, _, _, _, _, _, _, _, _, _, _, _, _, _, _, _, _, _, _, _, _, _, _, _, ⟨QA3.out, QF3.out, by rw [swp_length]; exact hbl, by rw [swp_length]; exact QL.out, ?_⟩, rfl⟩, by simp [intOf]; have := HBK.out; omega⟩
            rw [← QR.out, sinkF_go _ _ hk' (by rw [HB2.out]; exact fun e => HBN.out e), HB2.out]
end Go.Proofs.Ytpfoefmcjbdeeaa
