/-
  The alarms' rows, as the law reads them.
-/
import Derived.Test.YtpfoefmcjbdeeaaDo
import Derived.Test.YtpfoefmcjbdeeaaRowsF
namespace Go.Proofs.Ytpfoefmcjbdeeaa
open Go.RowKit Go.Maps Go.Proofs.YtpfoefmcjbdeeaaW.PrintWords Go.Proofs.YtpfoefmcjbdeeaaW.PrintLast Go.Proofs.YtpfoefmcjbdeeaaW.PrintMore
open Go.Proofs.Ytpfoefmcjbdeeaa.PAlarmAll

theorem rows_at (l : List S38) (hl : l.length < 1000000) : ∃ n, chicanelaw06_rows.f n l = some (m46 l) := by
  have key : ∀ (m i : Nat), l.length - i = m → i ≤ l.length → (out : List S46) → out.length ≤ i → chicanelaw06_rows.l0 (m + 1) out l (l.length : Int) i = some (out ++ m46 (l.drop i)) := by
    intro m
    induction m with
    | zero =>
      intro i h1 h2 out h3
      simp only [chicanelaw06_rows.l0]
      rw [if_neg (by omega), List.drop_of_length_le (by omega)]
      simp [m46]
    | succ m ih =>
      intro i h1 h2 out h3
      have hi : i < l.length := by omega
      rw [chicanelaw06_rows.l0, if_pos (by omega), if_pos (by omega), if_pos (by omega), if_pos (small _ (by omega)), wrap_up (n := l.length) (by omega) (by omega) hl]
      have := ih (i + 1) (by omega) (by omega) (out ++ [(⟨(rd_T38 l i).f0, (rd_T38 l i).f1⟩ : S46)]) (by simp; omega)
      refine Eq.trans this ?_
      rw [drop_rd l i hi]
      simp [m46, to46]
  refine ⟨l.length + 1, ?_⟩
  unfold chicanelaw06_rows.f
  simpa using key l.length 0 (by omega) (by omega) [] (by simp)
/-- A row of the call's own reads as its list. -/
theorem own_reads {base : Nat} {w : World} {v : Value} {h : List S38} (hl : h.length < 1000000) (r : w.ownsRow base 38 2 v h.length (cells2 h)) : ∃ A c, v = .slice A h.length c ∧ h.length ≤ c ∧ Kd.C k38 w A h.length h := by
  obtain ⟨A, c, rfl, hc⟩ := own_val r
  refine ⟨A, c, rfl, hc, rfl, by omega, fun hp => ?_⟩
  obtain ⟨b, c', e, _⟩ := own_at r 0 hp
  injection e with e1 e2 e3
  subst e1
  refine ⟨_, rfl, fun j p hj => ?_⟩
  have hjl : j < h.length := (List.getElem?_eq_some_iff.1 hj).1
  obtain ⟨b', c'', e', _, _, _, e0, e1, _⟩ := own_at r j hjl
  injection e' with e1' e2' e3'
  injection e1' with e1'
  injection e1' with e1'
  subst e1'
  have hp' : rd_T38 h j = p := by
    have := (List.getElem?_eq_some_iff.1 hj).2
    simp [rd_T38, hjl, this]
  rw [hp'] at e0 e1
  refine ⟨_, rfl, k38_mk w p, fun i u hi => ?_⟩
  have e2 : ∀ k, (⟨b, 0, none⟩ : Addr).add k = ⟨b, k, none⟩ := fun k => by simp [Addr.add]; exact fun e => e.symm
  rw [e2]
  have sz : k38.sz = 2 := rfl
  rw [sz]
  match i, hi with
  | 0, hi => simp only [List.getElem?_cons_zero, Option.some.injEq] at hi; rw [← hi]; exact e0
  | 1, hi => simp only [List.getElem?_cons_succ, List.getElem?_cons_zero, Option.some.injEq] at hi; rw [← hi]; exact e1
/-- The law's rows of a row of the call's own. -/
theorem rows_calls {base : Nat} (w : World) (v : Value) (h : List S38) (hl : h.length < 1000000) (r : w.ownsRow base 38 2 v h.length (cells2 h)) :
    Calls Try.prog 10 #[v] w fun e w' => ∃ A c, e = .returned (.slice A (m46 h).length c) ∧ R46 w' A c (m46 h) ∧ Below w.heap.size w w' := by
  obtain ⟨A, c, rfl, hc, hr⟩ := own_reads hl r
  obtain ⟨n, hn⟩ := rows_at h hl
  refine (chicanelaw06_rows.calls n A c h (m46 h) w hr hc hn).mono ?_
  rintro e w' ⟨v', rfl, hR, hb⟩
  obtain ⟨A', c', rfl, hx⟩ := R46.of_R hR
  exact ⟨A', c', rfl, hx, hb⟩
end Go.Proofs.Ytpfoefmcjbdeeaa
