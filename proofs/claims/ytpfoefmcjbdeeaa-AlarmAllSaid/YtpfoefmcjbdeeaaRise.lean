/-
  rise and sink.
-/
import Derived.Test.YtpfoefmcjbdeeaaPos
import Derived.WalkMore
import Derived.ScopeJumps
namespace Go
section
variable {P : Program} {a : Act} {w : World} {Q : Exit → Act → World → Prop}
/-- A label ahead of a body that jumps back to it. -/
theorem wp_scope_loop {rest : Code} (l : Nat) (J : Act → World → Prop) (μ : Act → World → Nat) (h0 : J a w)
    (pass : ∀ a w, J a w → rest.wp P (Exit.jump l (fun a' w' => J a' w' ∧ μ a' w' < μ a w) Q) a w) : (Code.scope ((Code.label l).seq rest)).wp P Q a w :=
  wp_scope_jumps (rest := .seq .skip rest) l J μ (by simp [findLabel]) (wp_seq (wp_label (Code.wp_mono (fun e a' w' h => by
    cases e <;> first | exact h | exact ⟨h.1, h.2.1⟩) (pass a w h0)))) (fun a w h => wp_seq (wp_skip (pass a w h)))
/-- A region that only reads, and calls quietly, up to its tail. -/
theorem wp_region_still_tail' {id : Nat} {l : List Oper} (n : Nat) (hm : P.follows .mixedOrders = true) (hB : Region.lexTailB .any l.toArray n = true)
    (h : ∀ wd, w.drew = wd → wpStill P l.toArray wd (fun a' => wpList P l.toArray Q (l.drop n) a' wd) (l.take n) a) : (Code.region id l.toArray true).wp P Q a w :=
  wp_region_still_tail n hm hB (h _ rfl)
end
end Go
namespace Go.Proofs.Ytpfoefmcjbdeeaa
open Go.RowKit Go.Maps Go.Proofs.YtpfoefmcjbdeeaaW.PrintWords Go.Proofs.YtpfoefmcjbdeeaaW.PrintLast Go.Proofs.YtpfoefmcjbdeeaaW.PrintMore
open Go.Proofs.Ytpfoefmcjbdeeaa.PAlarmAll

theorem riseF_stop0 (h : List S38) : riseF h 0 = h := by rw [riseF]; simp
theorem riseF_stop (h : List S38) (k : Nat) (hc : ahd (rd_T38 h k) (rd_T38 h ((k - 1) / 2 : Nat)) = false) : riseF h k = h := by rw [riseF, hc]; simp
theorem riseF_go (h : List S38) (k : Nat) (hk : 0 < k) (hc : ahd (rd_T38 h k) (rd_T38 h ((k - 1) / 2 : Nat)) = true) : riseF h k = riseF (swp h k ((k - 1) / 2)) ((k - 1) / 2) := by rw [riseF, hc]; simp [hk]

theorem Al.ax {base : Nat} {w : World} {g : Nat} {lv : Value} {mb : Nat} {h : List S38} {D : D0} {last : Int} (a : Al base w g lv mb h D last) (p : Pos h D) : Ax base w g lv mb h last := ⟨D, a, p⟩
set_option maxRecDepth 100000 in
set_option maxHeartbeats 4000000 in
theorem rise_calls {base : Nat} {w : World} {g : Nat} {lv : Value} {mb : Nat} {h : List S38} {last : Int} (a : Ax base w g lv mb h last) (k : Nat) (hk : k < h.length) :
    Calls Try.prog 31 #[.pointer (some ⟨g, 0, none⟩), .int .i64 k] w fun e w' => e = .returned (.tuple #[]) ∧ Ax base w' g lv mb (riseF h k) last ∧ Fr g lv mb w w' := by
  have QA := Aside0.mk a
  clear a
  go_enter Try.func31, Try.ntmps31
  go_wp2
  refine wp_scope_loop 0 (fun a' w' => ∃ (h' : List S38) (k' : Nat) (u2 u3 u4 u5 u6 u7 u8 u9 u10 u11 u12 u13 u14 u15 u16 u17 u18 u19 u20 u21 u22 u23 u24 u25 u26 u27 u28 u29 u30 u31 : Value), Aside0 (Ax base w' g lv mb h' last ∧ Fr g lv mb w w' ∧ k' < h'.length ∧ riseF h' k' = riseF h k) ∧ a' = { tmps := #[.pointer (some ⟨g, 0, none⟩), .int .i64 (k' : Int), u2, u3, u4, u5, u6, u7, u8, u9, u10, u11, u12, u13, u14, u15, u16, u17, u18, u19, u20, u21, u22, u23, u24, u25, u26, u27, u28, u29, u30, u31], defers := [] }) (fun a' _ => (intOf (a'.tmps.getD 1 undef)).toNat) ?_ ?_
  · exact ⟨h, k, _, _, _, _, _, _, _, _, _, _, _, _, _, _, _, _, _, _, _, _, _, _, _, _, _, _, _, _, _, _, ⟨QA.out, Fr.refl _ _ _ _, hk, rfl⟩, rfl⟩
  · rintro a' w1 ⟨h', k', u2, u3, u4, u5, u6, u7, u8, u9, u10, u11, u12, u13, u14, u15, u16, u17, u18, u19, u20, u21, u22, u23, u24, u25, u26, u27, u28, u29, u30, u31, Q1, rfl⟩
    obtain ⟨hA, hF, hk', hr⟩ := Q1.out
    have QA := Aside0.mk hA
    have QF := Aside0.mk hF
    have QR := Aside0.mk hr
    have hfew : h'.length < 900000 := by obtain ⟨_, _, p⟩ := hA; exact p.few
    clear Q1 hA hF hr
    by_cases hpos : 0 < k'
    · obtain ⟨q, hq⟩ : ∃ q : Nat, q = (k' - 1) / 2 := ⟨_, rfl⟩
      have HQ := Aside0.mk hq
      clear hq
      have ce : ((k' : Int) - 1) / 2 = (q : Int) := by have := HQ.out; omega
      have CE := Aside0.mk ce
      clear ce
      go_wp2
      rw [CE.out]
      refine wp_region_still_tail' 17 (by kernel_rfl) (by kernel_rfl) ?_
      intro wd hwd
      have QD := Aside0.mk QA.out.choose_spec.1.drew
      have QG := Aside0.mk QF.out.drew
      have P1 := Aside0.mk QA.out.choose_spec.2
      rw [hwd] at QD QG
      generalize QA.out.choose = D at QD P1
      clear QA QF hwd
      obtain ⟨b, c, e, hb, hc, lb, e0, e1, fz⟩ := own_at QD.out.row k' hk'
      have hq2 : q < h'.length := by have := HQ.out; omega
      obtain ⟨b', c', e', _, _, _, f0, f1, _⟩ := own_at QD.out.row q hq2
      subst e
      injection e' with e' e2 e3; injection e' with e'; injection e' with e'; subst e' e3
      clear e2 fz
      have c0 := QD.out.c0
      have lg := QD.out.lt
      simp only [List.take_succ_cons, List.take_zero, List.drop_succ_cons, List.drop_zero]
      iterate 17 still_step
      refine wpStill_nil ?_
      go_wp2_with fail
      refine (alarm_ahead.calls _ _ _ _ _ wd (ahd_f (rd_T38 h' k') (rd_T38 h' q))).mono ?_
      rintro e w2 ⟨rfl, hb2⟩
      have QD2 := Aside0.mk (QD.out.below hb2)
      have QG2 := Aside0.mk (QG.out.below hb2)
      have Q1 := Aside0.mk QD.out
      clear c0 lg e0 e1 f0 f1 hb2 QD QG Q1 hb hc lb
      cases hah : ahd (rd_T38 h' k') (rd_T38 h' q) with
      | true =>
        have HA := Aside0.mk hah
        clear hah
        go_wp2_with fail
        refine (ax_swap (QD2.out.ax P1.out) k' q hk' hq2).mono ?_
        rintro e w3 ⟨rfl, A3, F3⟩
        have QA3 := Aside0.mk A3
        have QF3 := Aside0.mk (QG2.out.then_ F3)
        clear A3 F3 QG2 QD2 P1
        go_wp2_with fail
        go_step3
        refine ⟨rfl, ⟨swp h' k' q, q, _, _, _, _, _, _, _, _, _, _, _, _, _, _, _, _, _, _, _, _, _, _, _, _, _, _, _, _, _, _, ⟨QA3.out, QF3.out, by rw [swp_length]; exact hq2, ?_⟩, rfl⟩, by simp [intOf]; have := HQ.out; omega⟩
        have e1 := HQ.out
        subst e1
        rw [← QR.out, riseF_go _ _ hpos HA.out]
      | false =>
        have HA := Aside0.mk hah
        clear hah
        go_wp2_with fail
        simp only [Exit.jump]
        go_end0
        have e1 := HQ.out
        subst e1
        exact ⟨rfl, by rw [← QR.out, riseF_stop _ _ HA.out]; exact QD2.out.ax P1.out, QG2.out⟩
    · obtain rfl : k' = 0 := by omega
      simp only [Int.natCast_zero]
      go_wp2
      go_quiet (fail)
      go_wp2
      simp only [Exit.jump]
      go_end0
      exact ⟨rfl, by rw [← QR.out, riseF_stop0]; exact (QA.out.choose_spec.1.drewN nq).ax QA.out.choose_spec.2, QF.out.drewN nq⟩
end Go.Proofs.Ytpfoefmcjbdeeaa
