/-
  The law AlarmAll, walked.
-/
import Derived.Test.YtpfoefmcjbdeeaaAlive
import Derived.Deep.RegionHeld3
namespace Go.Proofs.Ytpfoefmcjbdeeaa
open Go.RowKit Go.Maps Go.Proofs.YtpfoefmcjbdeeaaW.PrintWords Go.Proofs.YtpfoefmcjbdeeaaW.PrintLast Go.Proofs.YtpfoefmcjbdeeaaW.PrintMore
open Go.Proofs.Ytpfoefmcjbdeeaa.PAlarmAll
attribute [local go_sem high] eqA46

/-- The script, as it lies in memory. -/
def Script (w : World) (A : Option Addr) (n : Nat) : Prop := ∀ i : Nat, i < n → ∃ (ad : Addr) (kind at_ id : Int), A = some ad ∧ w.cell? (ad.add (i * 3)) = some (.int .i64 kind) ∧
  w.cell? ⟨(ad.add (i * 3)).block, (ad.add (i * 3)).off + 1, none⟩ = some (.int .i64 at_) ∧ w.cell? ⟨(ad.add (i * 3)).block, (ad.add (i * 3)).off + 2, none⟩ = some (.int .i64 id) ∧ (Lit.int .i64 id).wf = true
/-- The law's box of the reference's state. -/
structure RBox (w : World) (rb : Nat) (A : Option Addr) (n c : Nat) (last : Int) : Prop where
  h : w.heap[rb]? = some (.cells #[.slice A n c, .int .i64 last] 28 (0, 0))
/-- Between two calls of the script. -/
structure LawInv (base : Nat) (w0 wr : World) (g mb rb j : Nat) : Prop where
  ex : ∃ (h : List S38) (last : Int) (lv : Value) (A : Option Addr) (c : Nat), Ax base wr g lv mb h last ∧ Inv h last j ∧ wr.heap[rb]? = some (.cells #[.slice A (m46 (srt h)).length c, .int .i64 last] 28 (0, 0)) ∧ R46 wr A c (m46 (srt h))
  chg : Chg base w0 wr

/-- Behind both calls, and Next. -/
structure LawT (base : Nat) (w0 w : World) (g : Nat) (lv : Value) (mb : Nat) (h : List S38) (last : Int) (rb wb xb db : Nat) (A4 A5 A7 : Option Addr) (c4 c5 c7 : Nat) (xn : Int) (xis : Bool) (xe : Int) (T : List S46) (f0 f1 : Int) : Prop where
  a : Ax base w g lv mb h last
  chg : Chg base w0 w
  rbx : w.heap[rb]? = some (.cells #[.slice A4 (m46 (srt h)).length c4, .int .i64 last] 28 (0, 0))
  wbx : w.heap[wb]? = some (.cells #[.int .i64 xn, .bool xis, .int .i64 xe, .slice A5 T.length c5] 33 (0, 0))
  xbx : w.heap[xb]? = some (.cells #[.int .i64 xn, .bool xis, .int .i64 xe, .slice A7 T.length c7] 33 (0, 0))
  dbx : w.heap[db]? = some (.cells #[.int .i64 f0, .int .i64 f1] 38 (0, 0))
  r : R46 w A4 c4 (m46 (srt h))
  t5 : R46 w A5 c5 T
  t7 : R46 w A7 c7 T
theorem LawT.below {base : Nat} {w0 w w' : World} {g : Nat} {lv : Value} {mb : Nat} {h : List S38} {last : Int} {rb wb xb db : Nat} {A4 A5 A7 : Option Addr} {c4 c5 c7 : Nat} {xn : Int} {xis : Bool} {xe : Int} {T : List S46} {f0 f1 : Int}
    (x : LawT base w0 w g lv mb h last rb wb xb db A4 A5 A7 c4 c5 c7 xn xis xe T f0 f1) (hb : Below w.heap.size w w') : LawT base w0 w' g lv mb h last rb wb xb db A4 A5 A7 c4 c5 c7 xn xis xe T f0 f1 :=
  ⟨x.a.below hb, x.chg.trans (Chg.of_below hb x.a.base_le), (hb.block _ (Array.getElem?_eq_some_iff.1 x.rbx).1).trans x.rbx, (hb.block _ (Array.getElem?_eq_some_iff.1 x.wbx).1).trans x.wbx,
    (hb.block _ (Array.getElem?_eq_some_iff.1 x.xbx).1).trans x.xbx, (hb.block _ (Array.getElem?_eq_some_iff.1 x.dbx).1).trans x.dbx, x.r.below hb, x.t5.below hb, x.t7.below hb⟩

theorem LawT.cells {base : Nat} {w0 w : World} {g : Nat} {lv : Value} {mb : Nat} {h : List S38} {last : Int} {rb wb xb db : Nat} {A4 A5 A7 : Option Addr} {c4 c5 c7 : Nat} {xn : Int} {xis : Bool} {xe : Int} {T : List S46} {f0 f1 : Int}
    (x : LawT base w0 w g lv mb h last rb wb xb db A4 A5 A7 c4 c5 c7 xn xis xe T f0 f1) : (fun w' => w'.cell? ⟨xb, 0, none⟩ = some (.int .i64 xn) ∧ w'.cell? ⟨xb, 1, none⟩ = some (.bool xis) ∧ w'.cell? ⟨xb, 2, none⟩ = some (.int .i64 xe) ∧ w'.cell? ⟨xb, 3, none⟩ = some (.slice A7 T.length c7) ∧ w'.cell? ⟨wb, 0, none⟩ = some (.int .i64 xn) ∧ w'.cell? ⟨wb, 1, none⟩ = some (.bool xis) ∧ w'.cell? ⟨wb, 2, none⟩ = some (.int .i64 xe) ∧ w'.cell? ⟨wb, 3, none⟩ = some (.slice A5 T.length c5) ∧ w'.cell? ⟨rb, 0, none⟩ = some (.slice A4 (m46 (srt h)).length c4) ∧ w'.cell? ⟨db, 0, none⟩ = some (.int .i64 f0) ∧ w'.cell? ⟨db, 1, none⟩ = some (.int .i64 f1)) w :=
  ⟨cell_of x.xbx 0, cell_of x.xbx 1, cell_of x.xbx 2, cell_of x.xbx 3, cell_of x.wbx 0, cell_of x.wbx 1, cell_of x.wbx 2, cell_of x.wbx 3, cell_of x.rbx 0, cell_of x.dbx 0, cell_of x.dbx 1⟩
theorem LawT.drew {base : Nat} {w0 w : World} {g : Nat} {lv : Value} {mb : Nat} {h : List S38} {last : Int} {rb wb xb db : Nat} {A4 A5 A7 : Option Addr} {c4 c5 c7 : Nat} {xn : Int} {xis : Bool} {xe : Int} {T : List S46} {f0 f1 : Int}
    (x : LawT base w0 w g lv mb h last rb wb xb db A4 A5 A7 c4 c5 c7 xn xis xe T f0 f1) : LawT base w0 w.drew g lv mb h last rb wb xb db A4 A5 A7 c4 c5 c7 xn xis xe T f0 f1 := x.below (below_drew (Below.refl _ _))

theorem takeH {P : Program} {md : Region.Mode} {ops : Array Oper} {Q : Exit → Act → World → Prop} {S : World → Prop} {i : Nat} {N : Option Tmp} {oi : Oper} {v : Value} {fuel : Nat} {l : Array Bool} {a : Act} {w : World} (hi : ops[i]? = some oi) (hN : oi.dst = N) (hs : Region.noSelect ops = true) (hf : Region.free md ops l i = true) (hr : (Region.ready md ops l).contains i = true)
    (hQ : ∀ c a w, Q (.panic c) (a.put oi.dst v) w → Q (.panic c) a w) (hy : YieldsIf P ops S oi v a) (hS : S w) {a' : Act} (ha : a.put N v = a') (h : wpAnyH P md ops Q S fuel (l.setIfInBounds i true) a' w) : wpAnyH P md ops Q S (fuel + 1) l a w := by
  subst ha hN
  exact wpAnyH_take hi hs hf hr hQ hy hS h

theorem law_first {base : Nat} {w0 w : World} {g : Nat} {lv : Value} {mb : Nat} {h : List S38} {last : Int} {rb wb xb db j : Nat} {A4 A5 A7 : Option Addr} {c4 c5 c7 : Nat} {xn : Int} {xis : Bool} {xe : Int} {T : List S46} {f0 f1 : Int}
    (x : LawT base w0 w g lv mb h last rb wb xb db A4 A5 A7 c4 c5 c7 xn xis xe T f0 f1) (v : Inv h last j) (e0 : (rd_T38 h 0).f0 = f0) (e1 : (rd_T38 h 0).f1 = f1) (hp : 0 < h.length) :
    ∃ ad, A4 = some ad ∧ w.cell? ad = some (.int .i64 f0) ∧ w.cell? ⟨ad.block, ad.off + 1, none⟩ = some (.int .i64 f1) := by
  have hl : (0 : Int) < ((m46 (srt h)).length : Int) := by rw [m46_length, srt_length]; omega
  obtain ⟨ad, ea, y0, y1⟩ := at_T46 x.r.read 0 (Int.le_refl 0) hl
  obtain ⟨r, hr, _⟩ := srt_head h v.dist v.ok hp
  have hrd : rd_T46 (m46 (srt h)) 0 = to46 (rd_T38 h 0) := by
    rw [rd46, hr]
    rfl
  have ea0 : ad.add 0 = ad := by simp [Addr.add]
  rw [hrd] at y0 y1
  simp only [Int.toNat_zero, Nat.zero_mul, ea0] at y0 y1
  exact ⟨ad, ea, by rw [← e0]; exact y0, by rw [← e1]; exact y1⟩
theorem LawT.cells1 {base : Nat} {w0 w : World} {g : Nat} {lv : Value} {mb : Nat} {h : List S38} {last : Int} {rb wb xb db j : Nat} {ad4 : Addr} {A5 A7 : Option Addr} {c4 c5 c7 : Nat} {xn : Int} {xis : Bool} {xe : Int} {T : List S46} {f0 f1 : Int}
    (x : LawT base w0 w g lv mb h last rb wb xb db (some ad4) A5 A7 c4 c5 c7 xn xis xe T f0 f1) (hp0 : Aside0 (0 < h.length ∧ (rd_T38 h 0).f0 = f0 ∧ (rd_T38 h 0).f1 = f1 ∧ Inv h last j)) : (fun w' => w'.cell? ⟨xb, 0, none⟩ = some (.int .i64 xn) ∧ w'.cell? ⟨xb, 1, none⟩ = some (.bool xis) ∧ w'.cell? ⟨xb, 2, none⟩ = some (.int .i64 xe) ∧ w'.cell? ⟨xb, 3, none⟩ = some (.slice A7 T.length c7) ∧ w'.cell? ⟨wb, 0, none⟩ = some (.int .i64 xn) ∧ w'.cell? ⟨wb, 1, none⟩ = some (.bool xis) ∧ w'.cell? ⟨wb, 2, none⟩ = some (.int .i64 xe) ∧ w'.cell? ⟨wb, 3, none⟩ = some (.slice A5 T.length c5) ∧ w'.cell? ⟨rb, 0, none⟩ = some (.slice (some ad4) (m46 (srt h)).length c4) ∧ w'.cell? ⟨db, 0, none⟩ = some (.int .i64 f0) ∧ w'.cell? ⟨db, 1, none⟩ = some (.int .i64 f1) ∧ w'.cell? ad4 = some (.int .i64 f0) ∧ w'.cell? ⟨ad4.block, ad4.off + 1, none⟩ = some (.int .i64 f1)) w := by
  obtain ⟨hp, e0, e1, v⟩ := hp0.out
  obtain ⟨ad, ea, y0, y1⟩ := law_first x v e0 e1 hp
  cases ea
  exact ⟨cell_of x.xbx 0, cell_of x.xbx 1, cell_of x.xbx 2, cell_of x.xbx 3, cell_of x.wbx 0, cell_of x.wbx 1, cell_of x.wbx 2, cell_of x.wbx 3, cell_of x.rbx 0, cell_of x.dbx 0, cell_of x.dbx 1, y0, y1⟩

set_option maxRecDepth 100000 in
set_option maxHeartbeats 4000000 in
theorem law_long (w : World) (A : Option Addr) (n c : Nat) (hn : 200 < n) : Calls Try.prog 3 #[.slice A n c] w fun e w' => e = .returned (.bool true) ∧ Below w.heap.size w w' := by
  have hd : (200 : Int) < (n : Int) := by omega
  go_enter Try.func3, Try.ntmps3
  go_wp2_with fail
  refine (new_ax w).mono ?_
  rintro e w1 ⟨g, mb, rfl, ha, hb⟩
  have QB := Aside0.mk hb
  clear ha hb
  go_wp2_with fail
  refine (alive_calls w1).mono ?_
  rintro e w2 ⟨rfl, hb2⟩
  have QB2 := Aside0.mk (below_then QB.out QB.out.size hb2)
  clear QB hb2
  go_wp2_with fail
  go_ret
  exact ⟨rfl, QB2.out⟩

set_option maxRecDepth 100000 in
set_option maxHeartbeats 40000000 in
theorem law_short (w : World) (A : Option Addr) (n c : Nat) (hn : n ≤ 200) (hs : Script w A n) : Calls Try.prog 3 #[.slice A n c] w fun e w' => e = .returned (.bool true) ∧ Below w.heap.size w w' := by
  have hd : ¬ (200 : Int) < (n : Int) := by omega
  have HS := Aside0.mk hs
  clear hs
  go_enter Try.func3, Try.ntmps3
  go_wp2_with fail
  refine (new_ax w).mono ?_
  rintro e w1 ⟨g, mb, rfl, ha, hb⟩
  have QA1 := Aside0.mk ha
  have QB1 := Aside0.mk hb
  clear ha hb
  go_wp2_with fail
  have hb2 : Below w1.heap.size w1 (w1.alloc (.cells #[.slice none 0 0, .int .i64 0] 28)) := below_alloc (Below.refl _ _) _
  have hrb0 := heap_alloc_new w1 (.cells #[.slice none 0 0, .int .i64 0] 28)
  have QI := Aside0.mk (show LawInv w.heap.size w (w1.alloc (.cells #[.slice none 0 0, .int .i64 0] 28)) g mb w1.heap.size 0 from
    ⟨⟨[], 0, _, none, 0, QA1.out.below hb2, inv_nil, by rw [srt_nil]; exact hrb0, by rw [srt_nil]; exact R46.nil _ _ _⟩, Chg.of_below (below_then QB1.out QB1.out.size hb2) (Nat.le_refl _)⟩)
  have HRB := Aside0.mk QB1.out.size
  clear hb2 hrb0 QA1 QB1
  generalize w1.alloc (.cells #[.slice none 0 0, .int .i64 0] 28) = w2 at QI ⊢
  generalize w1.heap.size = rb at QI HRB ⊢
  go_loopg [27] n (fun k v wr => ∃ j : Nat, v = .int .i64 j ∧ Aside0 (k + j = n) ∧ Aside0 (LawInv w.heap.size w wr g mb rb j))
  case atStart => exact ⟨0, by go_num, ⟨by omega⟩, QI⟩
  case round =>
    clear QI
    obtain ⟨j, rfl, hj, HI⟩ := hrel
    by_cases hlt : j < n
    · obtain ⟨ad, kind, at_, id, ea, y0, y1, y2, hwf⟩ := HS.out j hlt
      cases ea
      have hbelow := HI.out.chg.below
      replace y0 := (hbelow.cell (World.block_lt_of_cell? w _ y0)).trans y0
      replace y1 := (hbelow.cell (World.block_lt_of_cell? w _ y1)).trans y1
      replace y2 := (hbelow.cell (World.block_lt_of_cell? w _ y2)).trans y2
      obtain ⟨h, last, lv, A1, c1, ha, hv, hb, hr⟩ := HI.out.ex
      obtain ⟨L', last', xn, xis, xe, T, hT, hdo, hdoes⟩ := step_any (base := w.heap.size) (g := g) (mb := mb) hv (by omega) kind at_ id hwf
      have QX := Aside0.mk HI.out.chg
      have QA := Aside0.mk ha
      have QV := Aside0.mk hv
      have QR := Aside0.mk hr
      have QT := Aside0.mk hT
      have QDO := Aside0.mk hdo
      have QDS := Aside0.mk hdoes
      have hb3 : Below wr.heap.size wr (wr.alloc (.cells #[.int .i64 kind, .int .i64 at_, .int .i64 id] 30)) := below_alloc (Below.refl _ _) _
      have QB3 := Aside0.mk hb3
      have HB3 := Aside0.mk ((hb3.block _ (Array.getElem?_eq_some_iff.1 hb).1).trans hb)
      have HO3 := Aside0.mk (heap_alloc_new wr (.cells #[.int .i64 kind, .int .i64 at_, .int .i64 id] 30))
      have z0 := cell_of HB3.out 0
      have z1 := cell_of HB3.out 1
      simp only [List.getElem?_toArray, List.getElem?_cons_zero, List.getElem?_cons_succ] at z0 z1
      clear hwf hbelow ha hv hb hr hT hdo hdoes HI hb3
      go_wp2_with fail
      generalize wr.alloc (.cells #[.int .i64 kind, .int .i64 at_, .int .i64 id] 30) = w3 at QB3 HB3 HO3 z0 z1 ⊢
      have QA3 := Aside0.mk (QA.out.below QB3.out)
      have QX3 := Aside0.mk (QX.out.trans (Chg.of_below QB3.out QA.out.base_le))
      have QR3 := Aside0.mk (QR.out.below QB3.out)
      clear QB3 QA QX QR y0 y1 y2
      generalize wr.heap.size = ob at HO3 ⊢
      refine (QDO.out w3 A1 c1 QR3.out).mono ?_
      rintro e w4 ⟨A4, c4, A5, c5, rfl, hr4, ht4, hb⟩
      have HB4 := Aside0.mk ((hb.block _ (Array.getElem?_eq_some_iff.1 HB3.out).1).trans HB3.out)
      have HO4 := Aside0.mk ((hb.block _ (Array.getElem?_eq_some_iff.1 HO3.out).1).trans HO3.out)
      have QA4 := Aside0.mk (QA3.out.below hb)
      have QX4 := Aside0.mk (QX3.out.trans (Chg.of_below hb QA3.out.base_le))
      have QR4 := Aside0.mk hr4
      have QT4 := Aside0.mk ht4
      clear hr4 ht4 hb HB3 HO3 QA3 QX3 QR3 QDO z0 z1
      have hb5 : Below w4.heap.size w4 ((w4.alloc (.cells #[.slice A4 (m46 L').length c4, .int .i64 last'] 28)).alloc (.cells #[.int .i64 xn, .bool xis, .int .i64 xe, .slice A5 T.length c5] 33)) := below_alloc (below_alloc (Below.refl _ _) _) _
      have QB5 := Aside0.mk hb5
      have HB5 := Aside0.mk ((hb5.block _ (Array.getElem?_eq_some_iff.1 HB4.out).1).trans HB4.out)
      have HO5 := Aside0.mk ((hb5.block _ (Array.getElem?_eq_some_iff.1 HO4.out).1).trans HO4.out)
      have z0 := cell_of HB5.out 0
      have z1 := cell_of HB5.out 1
      have fz0 := fz_of HB5.out 0
      have fz1 := fz_of HB5.out 1
      have o0 := cell_of HO5.out 0
      have o1 := cell_of HO5.out 1
      have o2 := cell_of HO5.out 2
      simp only [List.getElem?_toArray, List.getElem?_cons_zero, List.getElem?_cons_succ] at z0 z1 o0 o1 o2
      have ne0 : rb ≠ ob := by rintro rfl; have h1 := HB4.out; rw [HO4.out] at h1; injection h1 with h1; injection h1 with _ h1; exact absurd h1 (by decide)
      clear hb5
      go_wp2_with fail
      have hw5 : ((w4.alloc (.cells #[.slice A4 (m46 L').length c4, .int .i64 last'] 28)).alloc (.cells #[.int .i64 xn, .bool xis, .int .i64 xe, .slice A5 T.length c5] 33)).heap[w4.heap.size + 1]? = some (.cells #[.int .i64 xn, .bool xis, .int .i64 xe, .slice A5 T.length c5] 33 (0, 0)) := by
        rw [← show (w4.alloc (.cells #[.slice A4 (m46 L').length c4, .int .i64 last'] 28)).heap.size = w4.heap.size + 1 by simp, heap_alloc_new]
      have HW5 := Aside0.mk hw5
      have QA5 := Aside0.mk (QA4.out.below QB5.out)
      have QX5 := Aside0.mk (QX4.out.trans (Chg.of_below QB5.out QA4.out.base_le))
      have QR5 := Aside0.mk (QR4.out.below QB5.out)
      have QT5 := Aside0.mk (QT4.out.below QB5.out)
      clear hw5 QB5 HB4 HO4 QA4 QX4 QR4 QT4 HO5 o0 o1 o2 ne0 z0 z1 fz0 fz1
      generalize (w4.alloc (.cells #[.slice A4 (m46 L').length c4, .int .i64 last'] 28)).alloc (.cells #[.int .i64 xn, .bool xis, .int .i64 xe, .slice A5 T.length c5] 33) = w5 at *
      generalize w4.heap.size = nb at HW5 ⊢
      have i5 : IsBox w5 rb := ⟨_, _, _, HB5.out, by decide, by decide, by decide⟩
      have ne1 : nb + 1 ≠ rb := by rintro e; have h1 := HB5.out; rw [← e, HW5.out] at h1; injection h1 with h1; injection h1 with _ h1; exact absurd h1 (by decide)
      have HB6 := Aside0.mk (show ((w5.setCell ⟨rb, 0, none⟩ (.slice A4 (m46 L').length c4)).setCell ⟨rb, 1, none⟩ (.int .i64 last')).heap[rb]? = some (.cells #[.slice A4 (m46 L').length c4, .int .i64 last'] 28 (0, 0)) from (heap_setCell_at (heap_setCell_at HB5.out _) _).trans (by simp))
      have HW6 := Aside0.mk (show ((w5.setCell ⟨rb, 0, none⟩ (.slice A4 (m46 L').length c4)).setCell ⟨rb, 1, none⟩ (.int .i64 last')).heap[nb + 1]? = some (.cells #[.int .i64 xn, .bool xis, .int .i64 xe, .slice A5 T.length c5] 33 (0, 0)) from ((Below.heap_setCell _ _ _ _ ne1).trans (Below.heap_setCell _ _ _ _ ne1)).trans HW5.out)
      have QA6 := Aside0.mk ((QA5.out.box (p := ⟨rb, 0, none⟩) i5 (.slice A4 (m46 L').length c4)).box (p := ⟨rb, 1, none⟩) (i5.set _ _) (.int .i64 last'))
      have QX6 := Aside0.mk ((QX5.out.new (p := ⟨rb, 0, none⟩) HRB.out (Nat.le_refl _) (.slice A4 (m46 L').length c4)).new (p := ⟨rb, 1, none⟩) HRB.out (Nat.le_refl _) (.int .i64 last'))
      have QR6 := Aside0.mk ((QR5.out.box (p := ⟨rb, 0, none⟩) i5 (.slice A4 (m46 L').length c4)).box (p := ⟨rb, 1, none⟩) (i5.set _ _) (.int .i64 last'))
      have QT6 := Aside0.mk ((QT5.out.box (p := ⟨rb, 0, none⟩) i5 (.slice A4 (m46 L').length c4)).box (p := ⟨rb, 1, none⟩) (i5.set _ _) (.int .i64 last'))
      clear QA5 QX5 QR5 QT5 HB5 HW5 i5 ne1
      generalize (w5.setCell ⟨rb, 0, none⟩ (.slice A4 (m46 L').length c4)).setCell ⟨rb, 1, none⟩ (.int .i64 last') = w6 at *
      refine (QDS.out w6 lv QA6.out).mono ?_
      rintro e w7 ⟨h', hsr, hv', A7, c7, lv7, rfl, hr7, ha7, hx7⟩
      subst hsr
      have HB7 := Aside0.mk ((hx7.keep _ (Array.getElem?_eq_some_iff.1 HB6.out).1 (by rw [HB6.out]; exact ⟨by decide, by decide⟩)).trans HB6.out)
      have HW7 := Aside0.mk ((hx7.keep _ (Array.getElem?_eq_some_iff.1 HW6.out).1 (by rw [HW6.out]; exact ⟨by decide, by decide⟩)).trans HW6.out)
      have QX7 := Aside0.mk (QX6.out.trans hx7)
      have QA7 := Aside0.mk ha7
      have QR7 := Aside0.mk (QR6.out.chg hx7)
      have QT7 := Aside0.mk (QT6.out.chg hx7)
      have QU7 := Aside0.mk hr7
      have QV7 := Aside0.mk hv'
      clear hr7 ha7 hx7 hv' HB6 HW6 QA6 QX6 QR6 QT6 QDS QV
      go_wp2_with fail
      have hb8 : Below w7.heap.size w7 (w7.alloc (.cells #[.int .i64 xn, .bool xis, .int .i64 xe, .slice A7 T.length c7] 33)) := below_alloc (Below.refl _ _) _
      have HX8 := Aside0.mk (heap_alloc_new w7 (.cells #[.int .i64 xn, .bool xis, .int .i64 xe, .slice A7 T.length c7] 33))
      have QB8 := Aside0.mk hb8
      clear hb8
      generalize w7.alloc (.cells #[.int .i64 xn, .bool xis, .int .i64 xe, .slice A7 T.length c7] 33) = w8 at *
      refine (next_any (QA7.out.below QB8.out)).mono ?_
      rintro e w9 ⟨rfl, hb9⟩
      have QB9 := Aside0.mk (below_then QB8.out QB8.out.size hb9)
      have HX9 := Aside0.mk ((hb9.block _ (Array.getElem?_eq_some_iff.1 HX8.out).1).trans HX8.out)
      clear hb9 QB8 HX8
      generalize w7.heap.size = xb at HX9 ⊢
      obtain ⟨f0, hf0⟩ : ∃ f0, (rd_T38 h' 0).f0 = f0 := ⟨_, rfl⟩
      obtain ⟨f1, hf1⟩ : ∃ f1, (rd_T38 h' 0).f1 = f1 := ⟨_, rfl⟩
      rw [hf0, hf1]
      have HF0 := Aside0.mk hf0
      have HF1 := Aside0.mk hf1
      clear hf0 hf1
      have hb10 : Below w9.heap.size w9 (w9.alloc (.cells #[.int .i64 f0, .int .i64 f1] 38)) := below_alloc (Below.refl _ _) _
      have hb710 := below_then QB9.out QB9.out.size hb10
      have QL10 := Aside0.mk (show LawT w.heap.size w (w9.alloc (.cells #[.int .i64 f0, .int .i64 f1] 38)) g lv7 mb h' last' rb (nb + 1) xb w9.heap.size A4 A5 A7 c4 c5 c7 xn xis xe T f0 f1 from
        ⟨QA7.out.below hb710, QX7.out.trans (Chg.of_below hb710 QA7.out.base_le), (hb710.block _ (Array.getElem?_eq_some_iff.1 HB7.out).1).trans HB7.out, (hb710.block _ (Array.getElem?_eq_some_iff.1 HW7.out).1).trans HW7.out,
          (hb10.block _ (Array.getElem?_eq_some_iff.1 HX9.out).1).trans HX9.out, heap_alloc_new _ _, QR7.out.below hb710, QT7.out.below hb710, QU7.out.below hb710⟩)
      clear hb10 hb710 QB9 HX9 QA7 QX7 HB7 HW7 QR7 QT7 QU7
      obtain ⟨k10, hk10⟩ := same_refl T QT.out
      have HK10 := Aside0.mk hk10
      have HSL := Aside0.mk (show (srt h').length < 1000000 by rw [srt_length]; have := QV7.out.len; omega)
      obtain ⟨k13, hk13⟩ := same_refl (m46 (srt h')) (by rw [m46_length]; exact HSL.out)
      have HK13 := Aside0.mk hk13
      clear hk10 hk13
      by_cases hp : 0 < h'.length
      · obtain ⟨ad4, ea4, eb0, eb1⟩ := law_first QL10.out QV7.out HF0.out HF1.out hp
        subst ea4
        rw [isB_pos hp]
        have hp0 := Aside0.mk (show 0 < h'.length ∧ (rd_T38 h' 0).f0 = f0 ∧ (rd_T38 h' 0).f1 = f1 ∧ Inv h' last' (j + 1) from ⟨hp, HF0.out, HF1.out, QV7.out⟩)
        have hlp : 0 < (m46 (srt h')).length := by rw [m46_length, srt_length]; exact hp
        clear hp eb0 eb1
        go_wp2_with fail
        generalize w9.alloc (.cells #[.int .i64 f0, .int .i64 f1] 38) = w10 at *
        generalize w9.heap.size = db at *
        have QLD := Aside0.mk QL10.out.drew
        clear QL10
        simp only [List.append]
        refine wp_region_noPanic ?_
        refine wp_region_held_drew (S := (fun w' => w'.cell? ⟨xb, 0, none⟩ = some (.int .i64 xn) ∧ w'.cell? ⟨xb, 1, none⟩ = some (.bool xis) ∧ w'.cell? ⟨xb, 2, none⟩ = some (.int .i64 xe) ∧ w'.cell? ⟨xb, 3, none⟩ = some (.slice A7 T.length c7) ∧ w'.cell? ⟨nb + 1, 0, none⟩ = some (.int .i64 xn) ∧ w'.cell? ⟨nb + 1, 1, none⟩ = some (.bool xis) ∧ w'.cell? ⟨nb + 1, 2, none⟩ = some (.int .i64 xe) ∧ w'.cell? ⟨nb + 1, 3, none⟩ = some (.slice A5 T.length c5) ∧ w'.cell? ⟨rb, 0, none⟩ = some (.slice (some ad4) (m46 (srt h')).length c4) ∧ w'.cell? ⟨db, 0, none⟩ = some (.int .i64 f0) ∧ w'.cell? ⟨db, 1, none⟩ = some (.int .i64 f1) ∧ w'.cell? ad4 = some (.int .i64 f0) ∧ w'.cell? ⟨ad4.block, ad4.off + 1, none⟩ = some (.int .i64 f1))) rfl (QLD.out.cells1 hp0) (fun hHeld => ?_)
        refine takeH (i := 0) (N := some 46) (v := ?_) (a' := ?_) rfl rfl (by kernel_rfl) (by kernel_rfl) (by kernel_rfl) (fun _ _ _ h => h) (Or.inl ⟨by rfl, ?_⟩) hHeld ?_ ?_
        rotate_left
        · intro w' hSw; (try dsimp only at hSw); go_simp; try (with_reducible rfl)
        rotate_left
        · simp only [Act.put, List.setIfInBounds_toArray, List.set_cons_zero, List.set_cons_succ]
          rfl
        refine takeH (i := 1) (N := some 47) (v := ?_) (a' := ?_) rfl rfl (by kernel_rfl) (by kernel_rfl) (by kernel_rfl) (fun _ _ _ h => h) (Or.inl ⟨by rfl, ?_⟩) hHeld ?_ ?_
        rotate_left
        · intro w' hSw; (try dsimp only at hSw); go_simp; try (with_reducible rfl)
        rotate_left
        · simp only [Act.put, List.setIfInBounds_toArray, List.set_cons_zero, List.set_cons_succ]
          rfl
        refine takeH (i := 2) (N := some 48) (v := ?_) (a' := ?_) rfl rfl (by kernel_rfl) (by kernel_rfl) (by kernel_rfl) (fun _ _ _ h => h) (Or.inl ⟨by rfl, ?_⟩) hHeld ?_ ?_
        rotate_left
        · intro w' hSw; (try dsimp only at hSw); go_simp; try (with_reducible rfl)
        rotate_left
        · simp only [Act.put, List.setIfInBounds_toArray, List.set_cons_zero, List.set_cons_succ]
          rfl
        refine takeH (i := 3) (N := some 49) (v := ?_) (a' := ?_) rfl rfl (by kernel_rfl) (by kernel_rfl) (by kernel_rfl) (fun _ _ _ h => h) (Or.inl ⟨by rfl, ?_⟩) hHeld ?_ ?_
        rotate_left
        · intro w' hSw; (try dsimp only at hSw); go_simp; try (with_reducible rfl)
        rotate_left
        · simp only [Act.put, List.setIfInBounds_toArray, List.set_cons_zero, List.set_cons_succ]
          rfl
        refine takeH (i := 4) (N := some 50) (v := ?_) (a' := ?_) rfl rfl (by kernel_rfl) (by kernel_rfl) (by kernel_rfl) (fun _ _ _ h => h) (Or.inl ⟨by rfl, ?_⟩) hHeld ?_ ?_
        rotate_left
        · intro w' hSw; (try dsimp only at hSw); go_simp; try (with_reducible rfl)
        rotate_left
        · simp only [Act.put, List.setIfInBounds_toArray, List.set_cons_zero, List.set_cons_succ]
          rfl
        refine takeH (i := 5) (N := some 51) (v := ?_) (a' := ?_) rfl rfl (by kernel_rfl) (by kernel_rfl) (by kernel_rfl) (fun _ _ _ h => h) (Or.inl ⟨by rfl, ?_⟩) hHeld ?_ ?_
        rotate_left
        · intro w' hSw; (try dsimp only at hSw); go_simp; try (with_reducible rfl)
        rotate_left
        · simp only [Act.put, List.setIfInBounds_toArray, List.set_cons_zero, List.set_cons_succ]
          rfl
        refine takeH (i := 6) (N := some 52) (v := ?_) (a' := ?_) rfl rfl (by kernel_rfl) (by kernel_rfl) (by kernel_rfl) (fun _ _ _ h => h) (Or.inl ⟨by rfl, ?_⟩) hHeld ?_ ?_
        rotate_left
        · intro w' hSw; (try dsimp only at hSw); go_simp; try (with_reducible rfl)
        rotate_left
        · simp only [Act.put, List.setIfInBounds_toArray, List.set_cons_zero, List.set_cons_succ]
          rfl
        refine takeH (i := 7) (N := some 53) (v := ?_) (a' := ?_) rfl rfl (by kernel_rfl) (by kernel_rfl) (by kernel_rfl) (fun _ _ _ h => h) (Or.inl ⟨by rfl, ?_⟩) hHeld ?_ ?_
        rotate_left
        · intro w' hSw; (try dsimp only at hSw); go_simp; try (with_reducible rfl)
        rotate_left
        · simp only [Act.put, List.setIfInBounds_toArray, List.set_cons_zero, List.set_cons_succ]
          rfl
        refine takeH (i := 8) (N := some 54) (v := ?_) (a' := ?_) rfl rfl (by kernel_rfl) (by kernel_rfl) (by kernel_rfl) (fun _ _ _ h => h) (Or.inl ⟨by rfl, ?_⟩) hHeld ?_ ?_
        rotate_left
        · intro w' hSw; (try dsimp only at hSw); go_simp; try (with_reducible rfl)
        rotate_left
        · simp only [Act.put, List.setIfInBounds_toArray, List.set_cons_zero, List.set_cons_succ]
          rfl
        refine takeH (i := 9) (N := some 55) (v := ?_) (a' := ?_) rfl rfl (by kernel_rfl) (by kernel_rfl) (by kernel_rfl) (fun _ _ _ h => h) (Or.inl ⟨by rfl, ?_⟩) hHeld ?_ ?_
        rotate_left
        · intro w' hSw; (try dsimp only at hSw); go_simp; try (with_reducible rfl)
        rotate_left
        · simp only [Act.put, List.setIfInBounds_toArray, List.set_cons_zero, List.set_cons_succ]
          rfl
        refine takeH (i := 10) (N := some 56) (v := ?_) (a' := ?_) rfl rfl (by kernel_rfl) (by kernel_rfl) (by kernel_rfl) (fun _ _ _ h => h) (Or.inl ⟨by rfl, ?_⟩) hHeld ?_ ?_
        rotate_left
        · intro w' hSw; (try dsimp only at hSw); go_simp; try (with_reducible rfl)
        rotate_left
        · simp only [Act.put, List.setIfInBounds_toArray, List.set_cons_zero, List.set_cons_succ]
          rfl
        refine takeH (i := 11) (N := some 57) (v := ?_) (a' := ?_) rfl rfl (by kernel_rfl) (by kernel_rfl) (by kernel_rfl) (fun _ _ _ h => h) (Or.inl ⟨by rfl, ?_⟩) hHeld ?_ ?_
        rotate_left
        · intro w' hSw; (try dsimp only at hSw); go_simp; try (with_reducible rfl)
        rotate_left
        · simp only [Act.put, List.setIfInBounds_toArray, List.set_cons_zero, List.set_cons_succ]
          rfl
        refine takeH (i := 12) (N := some 58) (v := ?_) (a' := ?_) rfl rfl (by kernel_rfl) (by kernel_rfl) (by kernel_rfl) (fun _ _ _ h => h) (Or.inl ⟨by rfl, ?_⟩) hHeld ?_ ?_
        rotate_left
        · intro w' hSw; (try dsimp only at hSw); go_simp; try (with_reducible rfl)
        rotate_left
        · simp only [Act.put, List.setIfInBounds_toArray, List.set_cons_zero, List.set_cons_succ]
          rfl
        refine takeH (i := 13) (N := some 59) (v := ?_) (a' := ?_) rfl rfl (by kernel_rfl) (by kernel_rfl) (by kernel_rfl) (fun _ _ _ h => h) (Or.inl ⟨by rfl, ?_⟩) hHeld ?_ ?_
        rotate_left
        · intro w' hSw; (try dsimp only at hSw); go_simp; try (with_reducible rfl)
        rotate_left
        · simp only [Act.put, List.setIfInBounds_toArray, List.set_cons_zero, List.set_cons_succ]
          rfl
        refine takeH (i := 14) (N := some 60) (v := ?_) (a' := ?_) rfl rfl (by kernel_rfl) (by kernel_rfl) (by kernel_rfl) (fun _ _ _ h => h) (Or.inl ⟨by rfl, ?_⟩) hHeld ?_ ?_
        rotate_left
        · intro w' hSw; (try dsimp only at hSw); go_simp; try (with_reducible rfl)
        rotate_left
        · simp only [Act.put, List.setIfInBounds_toArray, List.set_cons_zero, List.set_cons_succ]
          rfl
        refine takeH (i := 15) (N := some 61) (v := ?_) (a' := ?_) rfl rfl (by kernel_rfl) (by kernel_rfl) (by kernel_rfl) (fun _ _ _ h => h) (Or.inl ⟨by rfl, ?_⟩) hHeld ?_ ?_
        rotate_left
        · intro w' hSw; (try dsimp only at hSw); go_simp; try (with_reducible rfl)
        rotate_left
        · simp only [Act.put, List.setIfInBounds_toArray, List.set_cons_zero, List.set_cons_succ]
          rfl
        refine takeH (i := 16) (N := some 62) (v := ?_) (a' := ?_) rfl rfl (by kernel_rfl) (by kernel_rfl) (by kernel_rfl) (fun _ _ _ h => h) (Or.inl ⟨by rfl, ?_⟩) hHeld ?_ ?_
        rotate_left
        · intro w' hSw; (try dsimp only at hSw); go_simp; try (with_reducible rfl)
        rotate_left
        · simp only [Act.put, List.setIfInBounds_toArray, List.set_cons_zero, List.set_cons_succ]
          rfl
        refine takeH (i := 17) (N := some 63) (v := ?_) (a' := ?_) rfl rfl (by kernel_rfl) (by kernel_rfl) (by kernel_rfl) (fun _ _ _ h => h) (Or.inl ⟨by rfl, ?_⟩) hHeld ?_ ?_
        rotate_left
        · intro w' hSw; (try dsimp only at hSw); go_simp; try (with_reducible rfl)
        rotate_left
        · simp only [Act.put, List.setIfInBounds_toArray, List.set_cons_zero, List.set_cons_succ]
          rfl
        refine takeH (i := 18) (N := some 64) (v := ?_) (a' := ?_) rfl rfl (by kernel_rfl) (by kernel_rfl) (by kernel_rfl) (fun _ _ _ h => h) (Or.inl ⟨by rfl, ?_⟩) hHeld ?_ ?_
        rotate_left
        · intro w' hSw; (try dsimp only at hSw); go_simp; try (with_reducible rfl)
        rotate_left
        · simp only [Act.put, List.setIfInBounds_toArray, List.set_cons_zero, List.set_cons_succ]
          rfl
        refine takeH (i := 19) (N := some 65) (v := ?_) (a' := ?_) rfl rfl (by kernel_rfl) (by kernel_rfl) (by kernel_rfl) (fun _ _ _ h => h) (Or.inl ⟨by rfl, ?_⟩) hHeld ?_ ?_
        rotate_left
        · intro w' hSw; (try dsimp only at hSw); go_simp; try (with_reducible rfl)
        rotate_left
        · simp only [Act.put, List.setIfInBounds_toArray, List.set_cons_zero, List.set_cons_succ]
          rfl
        refine takeH (i := 20) (N := some 66) (v := ?_) (a' := ?_) rfl rfl (by kernel_rfl) (by kernel_rfl) (by kernel_rfl) (fun _ _ _ h => h) (Or.inl ⟨by rfl, ?_⟩) hHeld ?_ ?_
        rotate_left
        · intro w' hSw; (try dsimp only at hSw); go_simp; try (with_reducible rfl)
        rotate_left
        · simp only [Act.put, List.setIfInBounds_toArray, List.set_cons_zero, List.set_cons_succ]
          rfl
        refine takeH (i := 21) (N := some 67) (v := ?_) (a' := ?_) rfl rfl (by kernel_rfl) (by kernel_rfl) (by kernel_rfl) (fun _ _ _ h => h) (Or.inl ⟨by rfl, ?_⟩) hHeld ?_ ?_
        rotate_left
        · intro w' hSw; (try dsimp only at hSw); go_simp; try (with_reducible rfl)
        rotate_left
        · simp only [Act.put, List.setIfInBounds_toArray, List.set_cons_zero, List.set_cons_succ]
          rfl
        refine takeH (i := 22) (N := some 68) (v := ?_) (a' := ?_) rfl rfl (by kernel_rfl) (by kernel_rfl) (by kernel_rfl) (fun _ _ _ h => h) (Or.inl ⟨by rfl, ?_⟩) hHeld ?_ ?_
        rotate_left
        · intro w' hSw; (try dsimp only at hSw); go_simp; try (with_reducible rfl)
        rotate_left
        · simp only [Act.put, List.setIfInBounds_toArray, List.set_cons_zero, List.set_cons_succ]
          rfl
        refine takeH (i := 23) (N := some 69) (v := ?_) (a' := ?_) rfl rfl (by kernel_rfl) (by kernel_rfl) (by kernel_rfl) (fun _ _ _ h => h) (Or.inl ⟨by rfl, ?_⟩) hHeld ?_ ?_
        rotate_left
        · intro w' hSw; (try dsimp only at hSw); go_simp; try (with_reducible rfl)
        rotate_left
        · simp only [Act.put, List.setIfInBounds_toArray, List.set_cons_zero, List.set_cons_succ]
          rfl
        clear hHeld
        refine wpAnyH_ready (rs := [24]) (by kernel_rfl) (by simp) ?_
        refine AllReadyH.cons (i := 24) rfl (fun K hK => ?_) AllReadyH.nil
        go_simp
        go_at_call 9
        refine (chicaneref06_Same.calls k10 A7 c7 T A5 c5 T true w10.drew QLD.out.t7.read QLD.out.t7.cap QLD.out.t5.read QLD.out.t5.cap HK10.out).mono ?_
        rintro e w11 ⟨rfl, hd⟩
        have QL11 := Aside0.mk (QLD.out.below hd.below)
        clear hd QLD HK10
        refine hK.out _ _ (QL11.out.cells1 hp0) (fun hHeld => ?_)
        clear hK K
        try simp only [Act.put, List.setIfInBounds_toArray, List.set_cons_zero, List.set_cons_succ]
        refine takeH (i := 25) (N := some 71) (v := ?_) (a' := ?_) rfl rfl (by kernel_rfl) (by kernel_rfl) (by kernel_rfl) (fun _ _ _ h => h) (Or.inl ⟨by rfl, ?_⟩) hHeld ?_ ?_
        rotate_left
        · intro w' hSw; (try dsimp only at hSw); go_simp; try (with_reducible rfl)
        rotate_left
        · simp only [Act.put, List.setIfInBounds_toArray, List.set_cons_zero, List.set_cons_succ]
          rfl
        refine takeH (i := 26) (N := some 72) (v := ?_) (a' := ?_) rfl rfl (by kernel_rfl) (by kernel_rfl) (by kernel_rfl) (fun _ _ _ h => h) (Or.inl ⟨by rfl, ?_⟩) hHeld ?_ ?_
        rotate_left
        · intro w' hSw; (try dsimp only at hSw); go_simp; try (with_reducible rfl)
        rotate_left
        · simp only [Act.put, List.setIfInBounds_toArray, List.set_cons_zero, List.set_cons_succ]
          rfl
        refine takeH (i := 27) (N := some 73) (v := ?_) (a' := ?_) rfl rfl (by kernel_rfl) (by kernel_rfl) (by kernel_rfl) (fun _ _ _ h => h) (Or.inl ⟨by rfl, ?_⟩) hHeld ?_ ?_
        rotate_left
        · intro w' hSw; (try dsimp only at hSw); go_simp; try (with_reducible rfl)
        rotate_left
        · simp only [Act.put, List.setIfInBounds_toArray, List.set_cons_zero, List.set_cons_succ]
          rfl
        refine takeH (i := 28) (N := some 74) (v := ?_) (a' := ?_) rfl rfl (by kernel_rfl) (by kernel_rfl) (by kernel_rfl) (fun _ _ _ h => h) (Or.inl ⟨by rfl, ?_⟩) hHeld ?_ ?_
        rotate_left
        · intro w' hSw; (try dsimp only at hSw); go_simp; try (with_reducible rfl)
        rotate_left
        · simp only [Act.put, List.setIfInBounds_toArray, List.set_cons_zero, List.set_cons_succ]
          rfl
        refine takeH (i := 31) (N := some 77) (v := ?_) (a' := ?_) rfl rfl (by kernel_rfl) (by kernel_rfl) (by kernel_rfl) (fun _ _ _ h => h) (Or.inl ⟨by rfl, ?_⟩) hHeld ?_ ?_
        rotate_left
        · intro w' hSw; (try dsimp only at hSw); go_simp; try (with_reducible rfl)
        rotate_left
        · simp only [Act.put, List.setIfInBounds_toArray, List.set_cons_zero, List.set_cons_succ]
          rfl
        refine takeH (i := 32) (N := some 78) (v := ?_) (a' := ?_) rfl rfl (by kernel_rfl) (by kernel_rfl) (by kernel_rfl) (fun _ _ _ h => h) (Or.inl ⟨by rfl, ?_⟩) hHeld ?_ ?_
        rotate_left
        · intro w' hSw; (try dsimp only at hSw); go_simp; try (with_reducible rfl)
        rotate_left
        · simp only [Act.put, List.setIfInBounds_toArray, List.set_cons_zero, List.set_cons_succ]
          rfl
        clear hHeld
        refine wpAnyH_ready (rs := [29]) (by kernel_rfl) (by simp) ?_
        refine AllReadyH.cons (i := 29) rfl (fun K hK => ?_) AllReadyH.nil
        go_simp
        go_at_call 11
        refine (list_calls QL11.out.a).mono ?_
        rintro e w12 ⟨v12, rfl, hr12, hb⟩
        have QL12 := Aside0.mk (QL11.out.below hb)
        have HR12 := Aside0.mk hr12
        clear hb hr12 QL11
        refine hK.out _ _ (QL12.out.cells1 hp0) (fun hHeld => ?_)
        clear hK K
        try simp only [Act.put, List.setIfInBounds_toArray, List.set_cons_zero, List.set_cons_succ]
        clear hHeld
        refine wpAnyH_ready (rs := [30]) (by kernel_rfl) (by simp) ?_
        refine AllReadyH.cons (i := 30) rfl (fun K hK => ?_) AllReadyH.nil
        go_simp
        go_at_call 10
        refine (rows_calls w12 v12 (srt h') HSL.out HR12.out).mono ?_
        rintro e w13 ⟨A13, c13, rfl, hr13, hb⟩
        have QL13 := Aside0.mk (QL12.out.below hb)
        have HR13 := Aside0.mk hr13
        clear hb hr13 QL12 HR12
        refine hK.out _ _ (QL13.out.cells1 hp0) (fun hHeld => ?_)
        clear hK K
        try simp only [Act.put, List.setIfInBounds_toArray, List.set_cons_zero, List.set_cons_succ]
        clear hHeld
        refine wpAnyH_ready (rs := [33]) (by kernel_rfl) (by simp) ?_
        refine AllReadyH.cons (i := 33) rfl (fun K hK => ?_) AllReadyH.nil
        go_simp
        go_at_call 9
        refine (chicaneref06_Same.calls k13 A13 c13 (m46 (srt h')) _ c4 (m46 (srt h')) true w13 HR13.out.read HR13.out.cap QL13.out.r.read QL13.out.r.cap HK13.out).mono ?_
        rintro e w14 ⟨rfl, hd⟩
        have QL14 := Aside0.mk (QL13.out.below hd.below)
        clear hd QL13 HR13 HK13
        refine hK.out _ _ (QL14.out.cells1 hp0) (fun hHeld => ?_)
        clear hK K
        try simp only [Act.put, List.setIfInBounds_toArray, List.set_cons_zero, List.set_cons_succ]
        refine takeH (i := 34) (N := some 80) (v := ?_) (a' := ?_) rfl rfl (by kernel_rfl) (by kernel_rfl) (by kernel_rfl) (fun _ _ _ h => h) (Or.inl ⟨by rfl, ?_⟩) hHeld ?_ ?_
        rotate_left
        · intro w' hSw; (try dsimp only at hSw); go_simp; try (with_reducible rfl)
        rotate_left
        · simp only [Act.put, List.setIfInBounds_toArray, List.set_cons_zero, List.set_cons_succ]
          rfl
        refine takeH (i := 35) (N := some 81) (v := ?_) (a' := ?_) rfl rfl (by kernel_rfl) (by kernel_rfl) (by kernel_rfl) (fun _ _ _ h => h) (Or.inl ⟨by rfl, ?_⟩) hHeld ?_ ?_
        rotate_left
        · intro w' hSw; (try dsimp only at hSw); go_simp; try (with_reducible rfl)
        rotate_left
        · simp only [Act.put, List.setIfInBounds_toArray, List.set_cons_zero, List.set_cons_succ]
          rfl
        refine takeH (i := 36) (N := some 82) (v := ?_) (a' := ?_) rfl rfl (by kernel_rfl) (by kernel_rfl) (by kernel_rfl) (fun _ _ _ h => h) (Or.inl ⟨by rfl, ?_⟩) hHeld ?_ ?_
        rotate_left
        · intro w' hSw; (try dsimp only at hSw); go_simp; try (with_reducible rfl)
        rotate_left
        · simp only [Act.put, List.setIfInBounds_toArray, List.set_cons_zero, List.set_cons_succ]
          rfl
        refine takeH (i := 37) (N := some 83) (v := ?_) (a' := ?_) rfl rfl (by kernel_rfl) (by kernel_rfl) (by kernel_rfl) (fun _ _ _ h => h) (Or.inl ⟨by rfl, ?_⟩) hHeld ?_ ?_
        rotate_left
        · intro w' hSw; (try dsimp only at hSw); go_simp; try (with_reducible rfl)
        rotate_left
        · simp only [Act.put, List.setIfInBounds_toArray, List.set_cons_zero, List.set_cons_succ]
          rfl
        refine takeH (i := 39) (N := some 85) (v := ?_) (a' := ?_) rfl rfl (by kernel_rfl) (by kernel_rfl) (by kernel_rfl) (fun _ _ _ h => h) (Or.inl ⟨by rfl, ?_⟩) hHeld ?_ ?_
        rotate_left
        · intro w' hSw; (try dsimp only at hSw); go_simp; try (with_reducible rfl)
        rotate_left
        · simp only [Act.put, List.setIfInBounds_toArray, List.set_cons_zero, List.set_cons_succ]
          rfl
        refine takeH (i := 40) (N := some 86) (v := ?_) (a' := ?_) rfl rfl (by kernel_rfl) (by kernel_rfl) (by kernel_rfl) (fun _ _ _ h => h) (Or.inl ⟨by rfl, ?_⟩) hHeld ?_ ?_
        rotate_left
        · intro w' hSw; (try dsimp only at hSw); go_simp; try (with_reducible rfl)
        rotate_left
        · simp only [Act.put, List.setIfInBounds_toArray, List.set_cons_zero, List.set_cons_succ]
          rfl
        refine takeH (i := 41) (N := some 87) (v := ?_) (a' := ?_) rfl rfl (by kernel_rfl) (by kernel_rfl) (by kernel_rfl) (fun _ _ _ h => h) (Or.inl ⟨by rfl, ?_⟩) hHeld ?_ ?_
        rotate_left
        · intro w' hSw; (try dsimp only at hSw); go_simp; try (with_reducible rfl)
        rotate_left
        · simp only [Act.put, List.setIfInBounds_toArray, List.set_cons_zero, List.set_cons_succ]
          rfl
        clear hHeld
        refine wpAnyH_ready (rs := [38]) (by kernel_rfl) (by simp) ?_
        refine AllReadyH.cons (i := 38) rfl (fun K hK => ?_) AllReadyH.nil
        go_simp
        go_at_call 12
        refine (len_ax QL14.out.a).mono ?_
        rintro e w15 ⟨rfl, hw⟩
        have QL15 := Aside0.mk (QL14.out.below (show Below w14.heap.size w14 w15 from hw ▸ Below.refl _ _))
        clear hw QL14
        rw [show h'.length = (m46 (srt h')).length by rw [m46_length, srt_length]]
        refine hK.out _ _ (QL15.out.cells1 hp0) (fun hHeld => ?_)
        clear hK K
        try simp only [Act.put, List.setIfInBounds_toArray, List.set_cons_zero, List.set_cons_succ]
        refine takeH (i := 42) (N := some 88) (v := ?_) (a' := ?_) rfl rfl (by kernel_rfl) (by kernel_rfl) (by kernel_rfl) (fun _ _ _ h => h) (Or.inl ⟨by rfl, ?_⟩) hHeld ?_ ?_
        rotate_left
        · intro w' hSw; (try dsimp only at hSw); go_simp; try (with_reducible rfl)
        rotate_left
        · simp only [Act.put, List.setIfInBounds_toArray, List.set_cons_zero, List.set_cons_succ]
          rfl
        refine takeH (i := 43) (N := some 89) (v := ?_) (a' := ?_) rfl rfl (by kernel_rfl) (by kernel_rfl) (by kernel_rfl) (fun _ _ _ h => h) (Or.inl ⟨by rfl, ?_⟩) hHeld ?_ ?_
        rotate_left
        · intro w' hSw; (try dsimp only at hSw); go_simp; try (with_reducible rfl)
        rotate_left
        · simp only [Act.put, List.setIfInBounds_toArray, List.set_cons_zero, List.set_cons_succ]
          rfl
        refine takeH (i := 44) (N := some 90) (v := ?_) (a' := ?_) rfl rfl (by kernel_rfl) (by kernel_rfl) (by kernel_rfl) (fun _ _ _ h => h) (Or.inl ⟨by rfl, ?_⟩) hHeld ?_ ?_
        rotate_left
        · intro w' hSw; (try dsimp only at hSw); go_simp; try (with_reducible rfl)
        rotate_left
        · simp only [Act.put, List.setIfInBounds_toArray, List.set_cons_zero, List.set_cons_succ]
          rfl
        refine takeH (i := 45) (N := some 91) (v := ?_) (a' := ?_) rfl rfl (by kernel_rfl) (by kernel_rfl) (by kernel_rfl) (fun _ _ _ h => h) (Or.inl ⟨by rfl, ?_⟩) hHeld ?_ ?_
        rotate_left
        · intro w' hSw; (try dsimp only at hSw); go_simp; try (with_reducible rfl)
        rotate_left
        · simp only [Act.put, List.setIfInBounds_toArray, List.set_cons_zero, List.set_cons_succ]
          rfl
        clear hHeld
        refine wpAnyH_ready (rs := [46]) (by kernel_rfl) (by simp) ?_
        refine AllReadyH.cons (i := 46) rfl (fun K hK => ?_) AllReadyH.nil
        go_simp
        go_at_call 13
        refine (check_calls QL15.out.a QV7.out.ok).mono ?_
        rintro e w16 ⟨rfl, hb⟩
        have QL16 := Aside0.mk (QL15.out.below hb)
        clear hb QL15
        refine hK.out _ _ (QL16.out.cells1 hp0) (fun hHeld => ?_)
        clear hK K
        try simp only [Act.put, List.setIfInBounds_toArray, List.set_cons_zero, List.set_cons_succ]
        refine takeH (i := 47) (N := some 93) (v := ?_) (a' := ?_) rfl rfl (by kernel_rfl) (by kernel_rfl) (by kernel_rfl) (fun _ _ _ h => h) (Or.inl ⟨by rfl, ?_⟩) hHeld ?_ ?_
        rotate_left
        · intro w' hSw; (try dsimp only at hSw); go_simp; try (with_reducible rfl)
        rotate_left
        · simp only [Act.put, List.setIfInBounds_toArray, List.set_cons_zero, List.set_cons_succ]
          rfl
        refine takeH (i := 48) (N := some 94) (v := ?_) (a' := ?_) rfl rfl (by kernel_rfl) (by kernel_rfl) (by kernel_rfl) (fun _ _ _ h => h) (Or.inl ⟨by rfl, ?_⟩) hHeld ?_ ?_
        rotate_left
        · intro w' hSw; (try dsimp only at hSw); go_simp; try (with_reducible rfl)
        rotate_left
        · simp only [Act.put, List.setIfInBounds_toArray, List.set_cons_zero, List.set_cons_succ]
          rfl
        refine takeH (i := 49) (N := some 95) (v := ?_) (a' := ?_) rfl rfl (by kernel_rfl) (by kernel_rfl) (by kernel_rfl) (fun _ _ _ h => h) (Or.inl ⟨by rfl, ?_⟩) hHeld ?_ ?_
        rotate_left
        · intro w' hSw; (try dsimp only at hSw); go_simp; try (with_reducible rfl)
        rotate_left
        · simp only [Act.put, List.setIfInBounds_toArray, List.set_cons_zero, List.set_cons_succ]
          rfl
        refine takeH (i := 50) (N := some 96) (v := ?_) (a' := ?_) rfl rfl (by kernel_rfl) (by kernel_rfl) (by kernel_rfl) (fun _ _ _ h => h) (Or.inl ⟨by rfl, ?_⟩) hHeld ?_ ?_
        rotate_left
        · intro w' hSw; (try dsimp only at hSw); go_simp; try (with_reducible rfl)
        rotate_left
        · simp only [Act.put, List.setIfInBounds_toArray, List.set_cons_zero, List.set_cons_succ]
          rfl
        refine takeH (i := 51) (N := some 97) (v := ?_) (a' := ?_) rfl rfl (by kernel_rfl) (by kernel_rfl) (by kernel_rfl) (fun _ _ _ h => h) (Or.inl ⟨by rfl, ?_⟩) hHeld ?_ ?_
        rotate_left
        · intro w' hSw; (try dsimp only at hSw); go_simp; try (with_reducible rfl)
        rotate_left
        · simp only [Act.put, List.setIfInBounds_toArray, List.set_cons_zero, List.set_cons_succ]
          rfl
        refine takeH (i := 52) (N := some 98) (v := ?_) (a' := ?_) rfl rfl (by kernel_rfl) (by kernel_rfl) (by kernel_rfl) (fun _ _ _ h => h) (Or.inl ⟨by rfl, ?_⟩) hHeld ?_ ?_
        rotate_left
        · intro w' hSw; (try dsimp only at hSw); go_simp; try (with_reducible rfl)
        rotate_left
        · simp only [Act.put, List.setIfInBounds_toArray, List.set_cons_zero, List.set_cons_succ]
          rfl
        refine takeH (i := 53) (N := some 99) (v := ?_) (a' := ?_) rfl rfl (by kernel_rfl) (by kernel_rfl) (by kernel_rfl) (fun _ _ _ h => h) (Or.inl ⟨by rfl, ?_⟩) hHeld ?_ ?_
        rotate_left
        · intro w' hSw; (try dsimp only at hSw); go_simp; try (with_reducible rfl)
        rotate_left
        · simp only [Act.put, List.setIfInBounds_toArray, List.set_cons_zero, List.set_cons_succ]
          rfl
        refine takeH (i := 54) (N := some 100) (v := ?_) (a' := ?_) rfl rfl (by kernel_rfl) (by kernel_rfl) (by kernel_rfl) (fun _ _ _ h => h) (Or.inl ⟨by rfl, ?_⟩) hHeld ?_ ?_
        rotate_left
        · intro w' hSw; (try dsimp only at hSw); go_simp; try (with_reducible rfl)
        rotate_left
        · simp only [Act.put, List.setIfInBounds_toArray, List.set_cons_zero, List.set_cons_succ]
          rfl
        refine takeH (i := 55) (N := some 101) (v := ?_) (a' := ?_) rfl rfl (by kernel_rfl) (by kernel_rfl) (by kernel_rfl) (fun _ _ _ h => h) (Or.inl ⟨by rfl, ?_⟩) hHeld ?_ ?_
        rotate_left
        · intro w' hSw; (try dsimp only at hSw); go_simp; try (with_reducible rfl)
        rotate_left
        · simp only [Act.put, List.setIfInBounds_toArray, List.set_cons_zero, List.set_cons_succ]
          rfl
        refine takeH (i := 56) (N := some 102) (v := ?_) (a' := ?_) rfl rfl (by kernel_rfl) (by kernel_rfl) (by kernel_rfl) (fun _ _ _ h => h) (Or.inl ⟨by rfl, ?_⟩) hHeld ?_ ?_
        rotate_left
        · intro w' hSw; (try dsimp only at hSw); go_simp; try (with_reducible rfl)
        rotate_left
        · simp only [Act.put, List.setIfInBounds_toArray, List.set_cons_zero, List.set_cons_succ]
          rfl
        refine takeH (i := 57) (N := some 103) (v := ?_) (a' := ?_) rfl rfl (by kernel_rfl) (by kernel_rfl) (by kernel_rfl) (fun _ _ _ h => h) (Or.inl ⟨by rfl, ?_⟩) hHeld ?_ ?_
        rotate_left
        · intro w' hSw; (try dsimp only at hSw); go_simp; try (with_reducible rfl)
        rotate_left
        · simp only [Act.put, List.setIfInBounds_toArray, List.set_cons_zero, List.set_cons_succ]
          rfl
        refine takeH (i := 58) (N := some 104) (v := ?_) (a' := ?_) rfl rfl (by kernel_rfl) (by kernel_rfl) (by kernel_rfl) (fun _ _ _ h => h) (Or.inl ⟨by rfl, ?_⟩) hHeld ?_ ?_
        rotate_left
        · intro w' hSw; (try dsimp only at hSw); go_simp; try (with_reducible rfl)
        rotate_left
        · simp only [Act.put, List.setIfInBounds_toArray, List.set_cons_zero, List.set_cons_succ]
          rfl
        refine takeH (i := 59) (N := some 105) (v := ?_) (a' := ?_) rfl rfl (by kernel_rfl) (by kernel_rfl) (by kernel_rfl) (fun _ _ _ h => h) (Or.inl ⟨by rfl, ?_⟩) hHeld ?_ ?_
        rotate_left
        · intro w' hSw; (try dsimp only at hSw); go_simp; try (with_reducible rfl)
        rotate_left
        · simp only [Act.put, List.setIfInBounds_toArray, List.set_cons_zero, List.set_cons_succ]
          rfl
        refine takeH (i := 60) (N := some 106) (v := ?_) (a' := ?_) rfl rfl (by kernel_rfl) (by kernel_rfl) (by kernel_rfl) (fun _ _ _ h => h) (Or.inl ⟨by rfl, ?_⟩) hHeld ?_ ?_
        rotate_left
        · intro w' hSw; (try dsimp only at hSw); go_simp; try (with_reducible rfl)
        rotate_left
        · simp only [Act.put, List.setIfInBounds_toArray, List.set_cons_zero, List.set_cons_succ]
          rfl
        refine takeH (i := 61) (N := some 107) (v := ?_) (a' := ?_) rfl rfl (by kernel_rfl) (by kernel_rfl) (by kernel_rfl) (fun _ _ _ h => h) (Or.inl ⟨by rfl, ?_⟩) hHeld ?_ ?_
        rotate_left
        · intro w' hSw; (try dsimp only at hSw); go_simp; try (with_reducible rfl)
        rotate_left
        · simp only [Act.put, List.setIfInBounds_toArray, List.set_cons_zero, List.set_cons_succ]
          rfl
        refine takeH (i := 62) (N := some 108) (v := ?_) (a' := ?_) rfl rfl (by kernel_rfl) (by kernel_rfl) (by kernel_rfl) (fun _ _ _ h => h) (Or.inl ⟨by rfl, ?_⟩) hHeld ?_ ?_
        rotate_left
        · intro w' hSw; (try dsimp only at hSw); go_simp; try (with_reducible rfl)
        rotate_left
        · simp only [Act.put, List.setIfInBounds_toArray, List.set_cons_zero, List.set_cons_succ]
          rfl
        refine takeH (i := 63) (N := some 109) (v := ?_) (a' := ?_) rfl rfl (by kernel_rfl) (by kernel_rfl) (by kernel_rfl) (fun _ _ _ h => h) (Or.inl ⟨by rfl, ?_⟩) hHeld ?_ ?_
        rotate_left
        · intro w' hSw; (try dsimp only at hSw); go_simp; try (with_reducible rfl)
        rotate_left
        · simp only [Act.put, List.setIfInBounds_toArray, List.set_cons_zero, List.set_cons_succ]
          rfl
        refine takeH (i := 64) (N := some 110) (v := ?_) (a' := ?_) rfl rfl (by kernel_rfl) (by kernel_rfl) (by kernel_rfl) (fun _ _ _ h => h) (Or.inl ⟨by rfl, ?_⟩) hHeld ?_ ?_
        rotate_left
        · intro w' hSw; (try dsimp only at hSw); go_simp; try (with_reducible rfl)
        rotate_left
        · simp only [Act.put, List.setIfInBounds_toArray, List.set_cons_zero, List.set_cons_succ]
          rfl
        refine takeH (i := 65) (N := some 111) (v := ?_) (a' := ?_) rfl rfl (by kernel_rfl) (by kernel_rfl) (by kernel_rfl) (fun _ _ _ h => h) (Or.inl ⟨by rfl, ?_⟩) hHeld ?_ ?_
        rotate_left
        · intro w' hSw; (try dsimp only at hSw); go_simp; try (with_reducible rfl)
        rotate_left
        · simp only [Act.put, List.setIfInBounds_toArray, List.set_cons_zero, List.set_cons_succ]
          rfl
        refine takeH (i := 66) (N := some 112) (v := ?_) (a' := ?_) rfl rfl (by kernel_rfl) (by kernel_rfl) (by kernel_rfl) (fun _ _ _ h => h) (Or.inl ⟨by rfl, ?_⟩) hHeld ?_ ?_
        rotate_left
        · intro w' hSw; (try dsimp only at hSw); go_simp; try (with_reducible rfl)
        rotate_left
        · simp only [Act.put, List.setIfInBounds_toArray, List.set_cons_zero, List.set_cons_succ]
          rfl
        refine takeH (i := 67) (N := some 113) (v := ?_) (a' := ?_) rfl rfl (by kernel_rfl) (by kernel_rfl) (by kernel_rfl) (fun _ _ _ h => h) (Or.inl ⟨by rfl, ?_⟩) hHeld ?_ ?_
        rotate_left
        · intro w' hSw; (try dsimp only at hSw); go_simp; try (with_reducible rfl)
        rotate_left
        · simp only [Act.put, List.setIfInBounds_toArray, List.set_cons_zero, List.set_cons_succ]
          rfl
        clear hHeld
        refine wpAnyH_done (by kernel_rfl) ?_ _
        refine NoPanic.normal ?_
        go_wp2_with fail
        go_roundg (gk - 1)
        case measure => have := hj.out; omega
        case rel => exact ⟨j + 1, by go_num, ⟨by have := hj.out; omega⟩, ⟨⟨h', last', lv7, _, c4, QL16.out.a, QV7.out, QL16.out.rbx, QL16.out.r⟩, QL16.out.chg⟩⟩
      · rw [isB_neg hp]
        have hd0 : decide (0 < (m46 (srt h')).length) = false := decide_eq_false (by rw [m46_length, srt_length]; exact hp)
        clear hp
        go_wp2_with fail
        generalize w9.alloc (.cells #[.int .i64 f0, .int .i64 f1] 38) = w10 at *
        generalize w9.heap.size = db at *
        have QLD := Aside0.mk QL10.out.drew
        clear QL10
        simp only [List.append]
        refine wp_region_noPanic ?_
        refine wp_region_held_drew (S := (fun w' => w'.cell? ⟨xb, 0, none⟩ = some (.int .i64 xn) ∧ w'.cell? ⟨xb, 1, none⟩ = some (.bool xis) ∧ w'.cell? ⟨xb, 2, none⟩ = some (.int .i64 xe) ∧ w'.cell? ⟨xb, 3, none⟩ = some (.slice A7 T.length c7) ∧ w'.cell? ⟨nb + 1, 0, none⟩ = some (.int .i64 xn) ∧ w'.cell? ⟨nb + 1, 1, none⟩ = some (.bool xis) ∧ w'.cell? ⟨nb + 1, 2, none⟩ = some (.int .i64 xe) ∧ w'.cell? ⟨nb + 1, 3, none⟩ = some (.slice A5 T.length c5) ∧ w'.cell? ⟨rb, 0, none⟩ = some (.slice A4 (m46 (srt h')).length c4) ∧ w'.cell? ⟨db, 0, none⟩ = some (.int .i64 f0) ∧ w'.cell? ⟨db, 1, none⟩ = some (.int .i64 f1))) rfl QLD.out.cells (fun hHeld => ?_)
        refine takeH (i := 0) (N := some 46) (v := ?_) (a' := ?_) rfl rfl (by kernel_rfl) (by kernel_rfl) (by kernel_rfl) (fun _ _ _ h => h) (Or.inl ⟨by rfl, ?_⟩) hHeld ?_ ?_
        rotate_left
        · intro w' hSw; (try dsimp only at hSw); go_simp; try (with_reducible rfl)
        rotate_left
        · simp only [Act.put, List.setIfInBounds_toArray, List.set_cons_zero, List.set_cons_succ]
          rfl
        refine takeH (i := 1) (N := some 47) (v := ?_) (a' := ?_) rfl rfl (by kernel_rfl) (by kernel_rfl) (by kernel_rfl) (fun _ _ _ h => h) (Or.inl ⟨by rfl, ?_⟩) hHeld ?_ ?_
        rotate_left
        · intro w' hSw; (try dsimp only at hSw); go_simp; try (with_reducible rfl)
        rotate_left
        · simp only [Act.put, List.setIfInBounds_toArray, List.set_cons_zero, List.set_cons_succ]
          rfl
        refine takeH (i := 2) (N := some 48) (v := ?_) (a' := ?_) rfl rfl (by kernel_rfl) (by kernel_rfl) (by kernel_rfl) (fun _ _ _ h => h) (Or.inl ⟨by rfl, ?_⟩) hHeld ?_ ?_
        rotate_left
        · intro w' hSw; (try dsimp only at hSw); go_simp; try (with_reducible rfl)
        rotate_left
        · simp only [Act.put, List.setIfInBounds_toArray, List.set_cons_zero, List.set_cons_succ]
          rfl
        refine takeH (i := 3) (N := some 49) (v := ?_) (a' := ?_) rfl rfl (by kernel_rfl) (by kernel_rfl) (by kernel_rfl) (fun _ _ _ h => h) (Or.inl ⟨by rfl, ?_⟩) hHeld ?_ ?_
        rotate_left
        · intro w' hSw; (try dsimp only at hSw); go_simp; try (with_reducible rfl)
        rotate_left
        · simp only [Act.put, List.setIfInBounds_toArray, List.set_cons_zero, List.set_cons_succ]
          rfl
        refine takeH (i := 4) (N := some 50) (v := ?_) (a' := ?_) rfl rfl (by kernel_rfl) (by kernel_rfl) (by kernel_rfl) (fun _ _ _ h => h) (Or.inl ⟨by rfl, ?_⟩) hHeld ?_ ?_
        rotate_left
        · intro w' hSw; (try dsimp only at hSw); go_simp; try (with_reducible rfl)
        rotate_left
        · simp only [Act.put, List.setIfInBounds_toArray, List.set_cons_zero, List.set_cons_succ]
          rfl
        refine takeH (i := 5) (N := some 51) (v := ?_) (a' := ?_) rfl rfl (by kernel_rfl) (by kernel_rfl) (by kernel_rfl) (fun _ _ _ h => h) (Or.inl ⟨by rfl, ?_⟩) hHeld ?_ ?_
        rotate_left
        · intro w' hSw; (try dsimp only at hSw); go_simp; try (with_reducible rfl)
        rotate_left
        · simp only [Act.put, List.setIfInBounds_toArray, List.set_cons_zero, List.set_cons_succ]
          rfl
        refine takeH (i := 6) (N := some 52) (v := ?_) (a' := ?_) rfl rfl (by kernel_rfl) (by kernel_rfl) (by kernel_rfl) (fun _ _ _ h => h) (Or.inl ⟨by rfl, ?_⟩) hHeld ?_ ?_
        rotate_left
        · intro w' hSw; (try dsimp only at hSw); go_simp; try (with_reducible rfl)
        rotate_left
        · simp only [Act.put, List.setIfInBounds_toArray, List.set_cons_zero, List.set_cons_succ]
          rfl
        refine takeH (i := 7) (N := some 53) (v := ?_) (a' := ?_) rfl rfl (by kernel_rfl) (by kernel_rfl) (by kernel_rfl) (fun _ _ _ h => h) (Or.inl ⟨by rfl, ?_⟩) hHeld ?_ ?_
        rotate_left
        · intro w' hSw; (try dsimp only at hSw); go_simp; try (with_reducible rfl)
        rotate_left
        · simp only [Act.put, List.setIfInBounds_toArray, List.set_cons_zero, List.set_cons_succ]
          rfl
        refine takeH (i := 8) (N := some 54) (v := ?_) (a' := ?_) rfl rfl (by kernel_rfl) (by kernel_rfl) (by kernel_rfl) (fun _ _ _ h => h) (Or.inl ⟨by rfl, ?_⟩) hHeld ?_ ?_
        rotate_left
        · intro w' hSw; (try dsimp only at hSw); go_simp; try (with_reducible rfl)
        rotate_left
        · simp only [Act.put, List.setIfInBounds_toArray, List.set_cons_zero, List.set_cons_succ]
          rfl
        refine takeH (i := 9) (N := some 55) (v := ?_) (a' := ?_) rfl rfl (by kernel_rfl) (by kernel_rfl) (by kernel_rfl) (fun _ _ _ h => h) (Or.inl ⟨by rfl, ?_⟩) hHeld ?_ ?_
        rotate_left
        · intro w' hSw; (try dsimp only at hSw); go_simp; try (with_reducible rfl)
        rotate_left
        · simp only [Act.put, List.setIfInBounds_toArray, List.set_cons_zero, List.set_cons_succ]
          rfl
        refine takeH (i := 10) (N := some 56) (v := ?_) (a' := ?_) rfl rfl (by kernel_rfl) (by kernel_rfl) (by kernel_rfl) (fun _ _ _ h => h) (Or.inl ⟨by rfl, ?_⟩) hHeld ?_ ?_
        rotate_left
        · intro w' hSw; (try dsimp only at hSw); go_simp; try (with_reducible rfl)
        rotate_left
        · simp only [Act.put, List.setIfInBounds_toArray, List.set_cons_zero, List.set_cons_succ]
          rfl
        refine takeH (i := 11) (N := some 57) (v := ?_) (a' := ?_) rfl rfl (by kernel_rfl) (by kernel_rfl) (by kernel_rfl) (fun _ _ _ h => h) (Or.inl ⟨by rfl, ?_⟩) hHeld ?_ ?_
        rotate_left
        · intro w' hSw; (try dsimp only at hSw); go_simp; try (with_reducible rfl)
        rotate_left
        · simp only [Act.put, List.setIfInBounds_toArray, List.set_cons_zero, List.set_cons_succ]
          rfl
        refine takeH (i := 12) (N := some 58) (v := ?_) (a' := ?_) rfl rfl (by kernel_rfl) (by kernel_rfl) (by kernel_rfl) (fun _ _ _ h => h) (Or.inl ⟨by rfl, ?_⟩) hHeld ?_ ?_
        rotate_left
        · intro w' hSw; (try dsimp only at hSw); go_simp; try (with_reducible rfl)
        rotate_left
        · simp only [Act.put, List.setIfInBounds_toArray, List.set_cons_zero, List.set_cons_succ]
          rfl
        refine takeH (i := 13) (N := some 59) (v := ?_) (a' := ?_) rfl rfl (by kernel_rfl) (by kernel_rfl) (by kernel_rfl) (fun _ _ _ h => h) (Or.inl ⟨by rfl, ?_⟩) hHeld ?_ ?_
        rotate_left
        · intro w' hSw; (try dsimp only at hSw); go_simp; try (with_reducible rfl)
        rotate_left
        · simp only [Act.put, List.setIfInBounds_toArray, List.set_cons_zero, List.set_cons_succ]
          rfl
        refine takeH (i := 14) (N := some 60) (v := ?_) (a' := ?_) rfl rfl (by kernel_rfl) (by kernel_rfl) (by kernel_rfl) (fun _ _ _ h => h) (Or.inl ⟨by rfl, ?_⟩) hHeld ?_ ?_
        rotate_left
        · intro w' hSw; (try dsimp only at hSw); go_simp; try (with_reducible rfl)
        rotate_left
        · simp only [Act.put, List.setIfInBounds_toArray, List.set_cons_zero, List.set_cons_succ]
          rfl
        refine takeH (i := 15) (N := some 61) (v := ?_) (a' := ?_) rfl rfl (by kernel_rfl) (by kernel_rfl) (by kernel_rfl) (fun _ _ _ h => h) (Or.inl ⟨by rfl, ?_⟩) hHeld ?_ ?_
        rotate_left
        · intro w' hSw; (try dsimp only at hSw); go_simp; try (with_reducible rfl)
        rotate_left
        · simp only [Act.put, List.setIfInBounds_toArray, List.set_cons_zero, List.set_cons_succ]
          rfl
        refine takeH (i := 16) (N := some 62) (v := ?_) (a' := ?_) rfl rfl (by kernel_rfl) (by kernel_rfl) (by kernel_rfl) (fun _ _ _ h => h) (Or.inl ⟨by rfl, ?_⟩) hHeld ?_ ?_
        rotate_left
        · intro w' hSw; (try dsimp only at hSw); go_simp; try (with_reducible rfl)
        rotate_left
        · simp only [Act.put, List.setIfInBounds_toArray, List.set_cons_zero, List.set_cons_succ]
          rfl
        refine takeH (i := 17) (N := some 63) (v := ?_) (a' := ?_) rfl rfl (by kernel_rfl) (by kernel_rfl) (by kernel_rfl) (fun _ _ _ h => h) (Or.inl ⟨by rfl, ?_⟩) hHeld ?_ ?_
        rotate_left
        · intro w' hSw; (try dsimp only at hSw); go_simp; try (with_reducible rfl)
        rotate_left
        · simp only [Act.put, List.setIfInBounds_toArray, List.set_cons_zero, List.set_cons_succ]
          rfl
        refine takeH (i := 18) (N := some 64) (v := ?_) (a' := ?_) rfl rfl (by kernel_rfl) (by kernel_rfl) (by kernel_rfl) (fun _ _ _ h => h) (Or.inl ⟨by rfl, ?_⟩) hHeld ?_ ?_
        rotate_left
        · intro w' hSw; (try dsimp only at hSw); go_simp; try (with_reducible rfl)
        rotate_left
        · simp only [Act.put, List.setIfInBounds_toArray, List.set_cons_zero, List.set_cons_succ]
          rfl
        refine takeH (i := 19) (N := some 65) (v := ?_) (a' := ?_) rfl rfl (by kernel_rfl) (by kernel_rfl) (by kernel_rfl) (fun _ _ _ h => h) (Or.inl ⟨by rfl, ?_⟩) hHeld ?_ ?_
        rotate_left
        · intro w' hSw; (try dsimp only at hSw); go_simp; try (with_reducible rfl)
        rotate_left
        · simp only [Act.put, List.setIfInBounds_toArray, List.set_cons_zero, List.set_cons_succ]
          rfl
        refine takeH (i := 20) (N := some 66) (v := ?_) (a' := ?_) rfl rfl (by kernel_rfl) (by kernel_rfl) (by kernel_rfl) (fun _ _ _ h => h) (Or.inl ⟨by rfl, ?_⟩) hHeld ?_ ?_
        rotate_left
        · intro w' hSw; (try dsimp only at hSw); go_simp; try (with_reducible rfl)
        rotate_left
        · simp only [Act.put, List.setIfInBounds_toArray, List.set_cons_zero, List.set_cons_succ]
          rfl
        refine takeH (i := 21) (N := some 67) (v := ?_) (a' := ?_) rfl rfl (by kernel_rfl) (by kernel_rfl) (by kernel_rfl) (fun _ _ _ h => h) (Or.inl ⟨by rfl, ?_⟩) hHeld ?_ ?_
        rotate_left
        · intro w' hSw; (try dsimp only at hSw); go_simp; try (with_reducible rfl)
        rotate_left
        · simp only [Act.put, List.setIfInBounds_toArray, List.set_cons_zero, List.set_cons_succ]
          rfl
        refine takeH (i := 22) (N := some 68) (v := ?_) (a' := ?_) rfl rfl (by kernel_rfl) (by kernel_rfl) (by kernel_rfl) (fun _ _ _ h => h) (Or.inl ⟨by rfl, ?_⟩) hHeld ?_ ?_
        rotate_left
        · intro w' hSw; (try dsimp only at hSw); go_simp; try (with_reducible rfl)
        rotate_left
        · simp only [Act.put, List.setIfInBounds_toArray, List.set_cons_zero, List.set_cons_succ]
          rfl
        refine takeH (i := 23) (N := some 69) (v := ?_) (a' := ?_) rfl rfl (by kernel_rfl) (by kernel_rfl) (by kernel_rfl) (fun _ _ _ h => h) (Or.inl ⟨by rfl, ?_⟩) hHeld ?_ ?_
        rotate_left
        · intro w' hSw; (try dsimp only at hSw); go_simp; try (with_reducible rfl)
        rotate_left
        · simp only [Act.put, List.setIfInBounds_toArray, List.set_cons_zero, List.set_cons_succ]
          rfl
        clear hHeld
        refine wpAnyH_ready (rs := [24]) (by kernel_rfl) (by simp) ?_
        refine AllReadyH.cons (i := 24) rfl (fun K hK => ?_) AllReadyH.nil
        go_simp
        go_at_call 9
        refine (chicaneref06_Same.calls k10 A7 c7 T A5 c5 T true w10.drew QLD.out.t7.read QLD.out.t7.cap QLD.out.t5.read QLD.out.t5.cap HK10.out).mono ?_
        rintro e w11 ⟨rfl, hd⟩
        have QL11 := Aside0.mk (QLD.out.below hd.below)
        clear hd QLD HK10
        refine hK.out _ _ QL11.out.cells (fun hHeld => ?_)
        clear hK K
        try simp only [Act.put, List.setIfInBounds_toArray, List.set_cons_zero, List.set_cons_succ]
        refine takeH (i := 25) (N := some 71) (v := ?_) (a' := ?_) rfl rfl (by kernel_rfl) (by kernel_rfl) (by kernel_rfl) (fun _ _ _ h => h) (Or.inl ⟨by rfl, ?_⟩) hHeld ?_ ?_
        rotate_left
        · intro w' hSw; (try dsimp only at hSw); go_simp; try (with_reducible rfl)
        rotate_left
        · simp only [Act.put, List.setIfInBounds_toArray, List.set_cons_zero, List.set_cons_succ]
          rfl
        refine takeH (i := 26) (N := some 72) (v := ?_) (a' := ?_) rfl rfl (by kernel_rfl) (by kernel_rfl) (by kernel_rfl) (fun _ _ _ h => h) (Or.inl ⟨by rfl, ?_⟩) hHeld ?_ ?_
        rotate_left
        · intro w' hSw; (try dsimp only at hSw); go_simp; try (with_reducible rfl)
        rotate_left
        · simp only [Act.put, List.setIfInBounds_toArray, List.set_cons_zero, List.set_cons_succ]
          rfl
        refine takeH (i := 27) (N := some 73) (v := ?_) (a' := ?_) rfl rfl (by kernel_rfl) (by kernel_rfl) (by kernel_rfl) (fun _ _ _ h => h) (Or.inl ⟨by rfl, ?_⟩) hHeld ?_ ?_
        rotate_left
        · intro w' hSw; (try dsimp only at hSw); go_simp; try (with_reducible rfl)
        rotate_left
        · simp only [Act.put, List.setIfInBounds_toArray, List.set_cons_zero, List.set_cons_succ]
          rfl
        refine takeH (i := 28) (N := some 74) (v := ?_) (a' := ?_) rfl rfl (by kernel_rfl) (by kernel_rfl) (by kernel_rfl) (fun _ _ _ h => h) (Or.inl ⟨by rfl, ?_⟩) hHeld ?_ ?_
        rotate_left
        · intro w' hSw; (try dsimp only at hSw); go_simp; try (with_reducible rfl)
        rotate_left
        · simp only [Act.put, List.setIfInBounds_toArray, List.set_cons_zero, List.set_cons_succ]
          rfl
        refine takeH (i := 31) (N := some 77) (v := ?_) (a' := ?_) rfl rfl (by kernel_rfl) (by kernel_rfl) (by kernel_rfl) (fun _ _ _ h => h) (Or.inl ⟨by rfl, ?_⟩) hHeld ?_ ?_
        rotate_left
        · intro w' hSw; (try dsimp only at hSw); go_simp; try (with_reducible rfl)
        rotate_left
        · simp only [Act.put, List.setIfInBounds_toArray, List.set_cons_zero, List.set_cons_succ]
          rfl
        refine takeH (i := 32) (N := some 78) (v := ?_) (a' := ?_) rfl rfl (by kernel_rfl) (by kernel_rfl) (by kernel_rfl) (fun _ _ _ h => h) (Or.inl ⟨by rfl, ?_⟩) hHeld ?_ ?_
        rotate_left
        · intro w' hSw; (try dsimp only at hSw); go_simp; try (with_reducible rfl)
        rotate_left
        · simp only [Act.put, List.setIfInBounds_toArray, List.set_cons_zero, List.set_cons_succ]
          rfl
        clear hHeld
        refine wpAnyH_ready (rs := [29]) (by kernel_rfl) (by simp) ?_
        refine AllReadyH.cons (i := 29) rfl (fun K hK => ?_) AllReadyH.nil
        go_simp
        go_at_call 11
        refine (list_calls QL11.out.a).mono ?_
        rintro e w12 ⟨v12, rfl, hr12, hb⟩
        have QL12 := Aside0.mk (QL11.out.below hb)
        have HR12 := Aside0.mk hr12
        clear hb hr12 QL11
        refine hK.out _ _ QL12.out.cells (fun hHeld => ?_)
        clear hK K
        try simp only [Act.put, List.setIfInBounds_toArray, List.set_cons_zero, List.set_cons_succ]
        clear hHeld
        refine wpAnyH_ready (rs := [30]) (by kernel_rfl) (by simp) ?_
        refine AllReadyH.cons (i := 30) rfl (fun K hK => ?_) AllReadyH.nil
        go_simp
        go_at_call 10
        refine (rows_calls w12 v12 (srt h') HSL.out HR12.out).mono ?_
        rintro e w13 ⟨A13, c13, rfl, hr13, hb⟩
        have QL13 := Aside0.mk (QL12.out.below hb)
        have HR13 := Aside0.mk hr13
        clear hb hr13 QL12 HR12
        refine hK.out _ _ QL13.out.cells (fun hHeld => ?_)
        clear hK K
        try simp only [Act.put, List.setIfInBounds_toArray, List.set_cons_zero, List.set_cons_succ]
        clear hHeld
        refine wpAnyH_ready (rs := [33]) (by kernel_rfl) (by simp) ?_
        refine AllReadyH.cons (i := 33) rfl (fun K hK => ?_) AllReadyH.nil
        go_simp
        go_at_call 9
        refine (chicaneref06_Same.calls k13 A13 c13 (m46 (srt h')) _ c4 (m46 (srt h')) true w13 HR13.out.read HR13.out.cap QL13.out.r.read QL13.out.r.cap HK13.out).mono ?_
        rintro e w14 ⟨rfl, hd⟩
        have QL14 := Aside0.mk (QL13.out.below hd.below)
        clear hd QL13 HR13 HK13
        refine hK.out _ _ QL14.out.cells (fun hHeld => ?_)
        clear hK K
        try simp only [Act.put, List.setIfInBounds_toArray, List.set_cons_zero, List.set_cons_succ]
        refine takeH (i := 34) (N := some 80) (v := ?_) (a' := ?_) rfl rfl (by kernel_rfl) (by kernel_rfl) (by kernel_rfl) (fun _ _ _ h => h) (Or.inl ⟨by rfl, ?_⟩) hHeld ?_ ?_
        rotate_left
        · intro w' hSw; (try dsimp only at hSw); go_simp; try (with_reducible rfl)
        rotate_left
        · simp only [Act.put, List.setIfInBounds_toArray, List.set_cons_zero, List.set_cons_succ]
          rfl
        refine takeH (i := 35) (N := some 81) (v := ?_) (a' := ?_) rfl rfl (by kernel_rfl) (by kernel_rfl) (by kernel_rfl) (fun _ _ _ h => h) (Or.inl ⟨by rfl, ?_⟩) hHeld ?_ ?_
        rotate_left
        · intro w' hSw; (try dsimp only at hSw); go_simp; try (with_reducible rfl)
        rotate_left
        · simp only [Act.put, List.setIfInBounds_toArray, List.set_cons_zero, List.set_cons_succ]
          rfl
        refine takeH (i := 36) (N := some 82) (v := ?_) (a' := ?_) rfl rfl (by kernel_rfl) (by kernel_rfl) (by kernel_rfl) (fun _ _ _ h => h) (Or.inl ⟨by rfl, ?_⟩) hHeld ?_ ?_
        rotate_left
        · intro w' hSw; (try dsimp only at hSw); go_simp; try (with_reducible rfl)
        rotate_left
        · simp only [Act.put, List.setIfInBounds_toArray, List.set_cons_zero, List.set_cons_succ]
          rfl
        refine takeH (i := 37) (N := some 83) (v := ?_) (a' := ?_) rfl rfl (by kernel_rfl) (by kernel_rfl) (by kernel_rfl) (fun _ _ _ h => h) (Or.inl ⟨by rfl, ?_⟩) hHeld ?_ ?_
        rotate_left
        · intro w' hSw; (try dsimp only at hSw); go_simp; try (with_reducible rfl)
        rotate_left
        · simp only [Act.put, List.setIfInBounds_toArray, List.set_cons_zero, List.set_cons_succ]
          rfl
        refine takeH (i := 39) (N := some 85) (v := ?_) (a' := ?_) rfl rfl (by kernel_rfl) (by kernel_rfl) (by kernel_rfl) (fun _ _ _ h => h) (Or.inl ⟨by rfl, ?_⟩) hHeld ?_ ?_
        rotate_left
        · intro w' hSw; (try dsimp only at hSw); go_simp; try (with_reducible rfl)
        rotate_left
        · simp only [Act.put, List.setIfInBounds_toArray, List.set_cons_zero, List.set_cons_succ]
          rfl
        refine takeH (i := 40) (N := some 86) (v := ?_) (a' := ?_) rfl rfl (by kernel_rfl) (by kernel_rfl) (by kernel_rfl) (fun _ _ _ h => h) (Or.inl ⟨by rfl, ?_⟩) hHeld ?_ ?_
        rotate_left
        · intro w' hSw; (try dsimp only at hSw); go_simp; try (with_reducible rfl)
        rotate_left
        · simp only [Act.put, List.setIfInBounds_toArray, List.set_cons_zero, List.set_cons_succ]
          rfl
        refine takeH (i := 41) (N := some 87) (v := ?_) (a' := ?_) rfl rfl (by kernel_rfl) (by kernel_rfl) (by kernel_rfl) (fun _ _ _ h => h) (Or.inl ⟨by rfl, ?_⟩) hHeld ?_ ?_
        rotate_left
        · intro w' hSw; (try dsimp only at hSw); go_simp; try (with_reducible rfl)
        rotate_left
        · simp only [Act.put, List.setIfInBounds_toArray, List.set_cons_zero, List.set_cons_succ]
          rfl
        clear hHeld
        refine wpAnyH_ready (rs := [38]) (by kernel_rfl) (by simp) ?_
        refine AllReadyH.cons (i := 38) rfl (fun K hK => ?_) AllReadyH.nil
        go_simp
        go_at_call 12
        refine (len_ax QL14.out.a).mono ?_
        rintro e w15 ⟨rfl, hw⟩
        have QL15 := Aside0.mk (QL14.out.below (show Below w14.heap.size w14 w15 from hw ▸ Below.refl _ _))
        clear hw QL14
        rw [show h'.length = (m46 (srt h')).length by rw [m46_length, srt_length]]
        refine hK.out _ _ QL15.out.cells (fun hHeld => ?_)
        clear hK K
        try simp only [Act.put, List.setIfInBounds_toArray, List.set_cons_zero, List.set_cons_succ]
        refine takeH (i := 42) (N := some 88) (v := ?_) (a' := ?_) rfl rfl (by kernel_rfl) (by kernel_rfl) (by kernel_rfl) (fun _ _ _ h => h) (Or.inl ⟨by rfl, ?_⟩) hHeld ?_ ?_
        rotate_left
        · intro w' hSw; (try dsimp only at hSw); go_simp; try (with_reducible rfl)
        rotate_left
        · simp only [Act.put, List.setIfInBounds_toArray, List.set_cons_zero, List.set_cons_succ]
          rfl
        refine takeH (i := 43) (N := some 89) (v := ?_) (a' := ?_) rfl rfl (by kernel_rfl) (by kernel_rfl) (by kernel_rfl) (fun _ _ _ h => h) (Or.inl ⟨by rfl, ?_⟩) hHeld ?_ ?_
        rotate_left
        · intro w' hSw; (try dsimp only at hSw); go_simp; try (with_reducible rfl)
        rotate_left
        · simp only [Act.put, List.setIfInBounds_toArray, List.set_cons_zero, List.set_cons_succ]
          rfl
        refine takeH (i := 44) (N := some 90) (v := ?_) (a' := ?_) rfl rfl (by kernel_rfl) (by kernel_rfl) (by kernel_rfl) (fun _ _ _ h => h) (Or.inl ⟨by rfl, ?_⟩) hHeld ?_ ?_
        rotate_left
        · intro w' hSw; (try dsimp only at hSw); go_simp; try (with_reducible rfl)
        rotate_left
        · simp only [Act.put, List.setIfInBounds_toArray, List.set_cons_zero, List.set_cons_succ]
          rfl
        refine takeH (i := 45) (N := some 91) (v := ?_) (a' := ?_) rfl rfl (by kernel_rfl) (by kernel_rfl) (by kernel_rfl) (fun _ _ _ h => h) (Or.inl ⟨by rfl, ?_⟩) hHeld ?_ ?_
        rotate_left
        · intro w' hSw; (try dsimp only at hSw); go_simp; try (with_reducible rfl)
        rotate_left
        · simp only [Act.put, List.setIfInBounds_toArray, List.set_cons_zero, List.set_cons_succ]
          rfl
        clear hHeld
        refine wpAnyH_ready (rs := [46]) (by kernel_rfl) (by simp) ?_
        refine AllReadyH.cons (i := 46) rfl (fun K hK => ?_) AllReadyH.nil
        go_simp
        go_at_call 13
        refine (check_calls QL15.out.a QV7.out.ok).mono ?_
        rintro e w16 ⟨rfl, hb⟩
        have QL16 := Aside0.mk (QL15.out.below hb)
        clear hb QL15
        refine hK.out _ _ QL16.out.cells (fun hHeld => ?_)
        clear hK K
        try simp only [Act.put, List.setIfInBounds_toArray, List.set_cons_zero, List.set_cons_succ]
        refine takeH (i := 47) (N := some 93) (v := ?_) (a' := ?_) rfl rfl (by kernel_rfl) (by kernel_rfl) (by kernel_rfl) (fun _ _ _ h => h) (Or.inl ⟨by rfl, ?_⟩) hHeld ?_ ?_
        rotate_left
        · intro w' hSw; (try dsimp only at hSw); go_simp; try (with_reducible rfl)
        rotate_left
        · simp only [Act.put, List.setIfInBounds_toArray, List.set_cons_zero, List.set_cons_succ]
          rfl
        refine takeH (i := 48) (N := some 94) (v := ?_) (a' := ?_) rfl rfl (by kernel_rfl) (by kernel_rfl) (by kernel_rfl) (fun _ _ _ h => h) (Or.inl ⟨by rfl, ?_⟩) hHeld ?_ ?_
        rotate_left
        · intro w' hSw; (try dsimp only at hSw); go_simp; try (with_reducible rfl)
        rotate_left
        · simp only [Act.put, List.setIfInBounds_toArray, List.set_cons_zero, List.set_cons_succ]
          rfl
        refine takeH (i := 49) (N := some 95) (v := ?_) (a' := ?_) rfl rfl (by kernel_rfl) (by kernel_rfl) (by kernel_rfl) (fun _ _ _ h => h) (Or.inl ⟨by rfl, ?_⟩) hHeld ?_ ?_
        rotate_left
        · intro w' hSw; (try dsimp only at hSw); go_simp; try (with_reducible rfl)
        rotate_left
        · simp only [Act.put, List.setIfInBounds_toArray, List.set_cons_zero, List.set_cons_succ]
          rfl
        refine takeH (i := 50) (N := some 96) (v := ?_) (a' := ?_) rfl rfl (by kernel_rfl) (by kernel_rfl) (by kernel_rfl) (fun _ _ _ h => h) (Or.inl ⟨by rfl, ?_⟩) hHeld ?_ ?_
        rotate_left
        · intro w' hSw; (try dsimp only at hSw); go_simp; try (with_reducible rfl)
        rotate_left
        · simp only [Act.put, List.setIfInBounds_toArray, List.set_cons_zero, List.set_cons_succ]
          rfl
        refine takeH (i := 51) (N := some 97) (v := ?_) (a' := ?_) rfl rfl (by kernel_rfl) (by kernel_rfl) (by kernel_rfl) (fun _ _ _ h => h) (Or.inl ⟨by rfl, ?_⟩) hHeld ?_ ?_
        rotate_left
        · intro w' hSw; (try dsimp only at hSw); go_simp; try (with_reducible rfl)
        rotate_left
        · simp only [Act.put, List.setIfInBounds_toArray, List.set_cons_zero, List.set_cons_succ]
          rfl
        refine takeH (i := 52) (N := some 98) (v := ?_) (a' := ?_) rfl rfl (by kernel_rfl) (by kernel_rfl) (by kernel_rfl) (fun _ _ _ h => h) (Or.inl ⟨by rfl, ?_⟩) hHeld ?_ ?_
        rotate_left
        · intro w' hSw; (try dsimp only at hSw); go_simp; try (with_reducible rfl)
        rotate_left
        · simp only [Act.put, List.setIfInBounds_toArray, List.set_cons_zero, List.set_cons_succ]
          rfl
        refine takeH (i := 53) (N := some 99) (v := ?_) (a' := ?_) rfl rfl (by kernel_rfl) (by kernel_rfl) (by kernel_rfl) (fun _ _ _ h => h) (Or.inl ⟨by rfl, ?_⟩) hHeld ?_ ?_
        rotate_left
        · intro w' hSw; (try dsimp only at hSw); go_simp; try (with_reducible rfl)
        rotate_left
        · simp only [Act.put, List.setIfInBounds_toArray, List.set_cons_zero, List.set_cons_succ]
          rfl
        refine takeH (i := 54) (N := some 100) (v := ?_) (a' := ?_) rfl rfl (by kernel_rfl) (by kernel_rfl) (by kernel_rfl) (fun _ _ _ h => h) (Or.inl ⟨by rfl, ?_⟩) hHeld ?_ ?_
        rotate_left
        · intro w' hSw; (try dsimp only at hSw); go_simp; try (with_reducible rfl)
        rotate_left
        · simp only [Act.put, List.setIfInBounds_toArray, List.set_cons_zero, List.set_cons_succ]
          rfl
        refine takeH (i := 55) (N := some 101) (v := ?_) (a' := ?_) rfl rfl (by kernel_rfl) (by kernel_rfl) (by kernel_rfl) (fun _ _ _ h => h) (Or.inl ⟨by rfl, ?_⟩) hHeld ?_ ?_
        rotate_left
        · intro w' hSw; (try dsimp only at hSw); go_simp; try (with_reducible rfl)
        rotate_left
        · simp only [Act.put, List.setIfInBounds_toArray, List.set_cons_zero, List.set_cons_succ]
          rfl
        refine takeH (i := 56) (N := some 102) (v := ?_) (a' := ?_) rfl rfl (by kernel_rfl) (by kernel_rfl) (by kernel_rfl) (fun _ _ _ h => h) (Or.inl ⟨by rfl, ?_⟩) hHeld ?_ ?_
        rotate_left
        · intro w' hSw; (try dsimp only at hSw); go_simp; try (with_reducible rfl)
        rotate_left
        · simp only [Act.put, List.setIfInBounds_toArray, List.set_cons_zero, List.set_cons_succ]
          rfl
        refine takeH (i := 57) (N := some 103) (v := ?_) (a' := ?_) rfl rfl (by kernel_rfl) (by kernel_rfl) (by kernel_rfl) (fun _ _ _ h => h) (Or.inl ⟨by rfl, ?_⟩) hHeld ?_ ?_
        rotate_left
        · intro w' hSw; (try dsimp only at hSw); go_simp; try (with_reducible rfl)
        rotate_left
        · simp only [Act.put, List.setIfInBounds_toArray, List.set_cons_zero, List.set_cons_succ]
          rfl
        refine takeH (i := 58) (N := some 104) (v := ?_) (a' := ?_) rfl rfl (by kernel_rfl) (by kernel_rfl) (by kernel_rfl) (fun _ _ _ h => h) (Or.inl ⟨by rfl, ?_⟩) hHeld ?_ ?_
        rotate_left
        · intro w' hSw; (try dsimp only at hSw); go_simp; try (with_reducible rfl)
        rotate_left
        · simp only [Act.put, List.setIfInBounds_toArray, List.set_cons_zero, List.set_cons_succ]
          rfl
        refine takeH (i := 59) (N := some 105) (v := ?_) (a' := ?_) rfl rfl (by kernel_rfl) (by kernel_rfl) (by kernel_rfl) (fun _ _ _ h => h) (Or.inl ⟨by rfl, ?_⟩) hHeld ?_ ?_
        rotate_left
        · intro w' hSw; (try dsimp only at hSw); go_simp; try (with_reducible rfl)
        rotate_left
        · simp only [Act.put, List.setIfInBounds_toArray, List.set_cons_zero, List.set_cons_succ]
          rfl
        refine takeH (i := 60) (N := some 106) (v := undef) (a' := ?_) rfl rfl (by kernel_rfl) (by kernel_rfl) (by kernel_rfl) (fun _ _ _ h => h) (Or.inr ⟨by rfl, rfl⟩) hHeld ?_ ?_
        rotate_left
        · simp only [Act.put, List.setIfInBounds_toArray, List.set_cons_zero, List.set_cons_succ]
          rfl
        refine takeH (i := 61) (N := some 107) (v := undef) (a' := ?_) rfl rfl (by kernel_rfl) (by kernel_rfl) (by kernel_rfl) (fun _ _ _ h => h) (Or.inr ⟨by rfl, rfl⟩) hHeld ?_ ?_
        rotate_left
        · simp only [Act.put, List.setIfInBounds_toArray, List.set_cons_zero, List.set_cons_succ]
          rfl
        refine takeH (i := 62) (N := some 108) (v := undef) (a' := ?_) rfl rfl (by kernel_rfl) (by kernel_rfl) (by kernel_rfl) (fun _ _ _ h => h) (Or.inr ⟨by rfl, rfl⟩) hHeld ?_ ?_
        rotate_left
        · simp only [Act.put, List.setIfInBounds_toArray, List.set_cons_zero, List.set_cons_succ]
          rfl
        refine takeH (i := 63) (N := some 109) (v := undef) (a' := ?_) rfl rfl (by kernel_rfl) (by kernel_rfl) (by kernel_rfl) (fun _ _ _ h => h) (Or.inr ⟨by rfl, rfl⟩) hHeld ?_ ?_
        rotate_left
        · simp only [Act.put, List.setIfInBounds_toArray, List.set_cons_zero, List.set_cons_succ]
          rfl
        refine takeH (i := 64) (N := some 110) (v := undef) (a' := ?_) rfl rfl (by kernel_rfl) (by kernel_rfl) (by kernel_rfl) (fun _ _ _ h => h) (Or.inr ⟨by rfl, rfl⟩) hHeld ?_ ?_
        rotate_left
        · simp only [Act.put, List.setIfInBounds_toArray, List.set_cons_zero, List.set_cons_succ]
          rfl
        refine takeH (i := 65) (N := some 111) (v := undef) (a' := ?_) rfl rfl (by kernel_rfl) (by kernel_rfl) (by kernel_rfl) (fun _ _ _ h => h) (Or.inr ⟨by rfl, rfl⟩) hHeld ?_ ?_
        rotate_left
        · simp only [Act.put, List.setIfInBounds_toArray, List.set_cons_zero, List.set_cons_succ]
          rfl
        refine takeH (i := 66) (N := some 112) (v := ?_) (a' := ?_) rfl rfl (by kernel_rfl) (by kernel_rfl) (by kernel_rfl) (fun _ _ _ h => h) (Or.inl ⟨by rfl, ?_⟩) hHeld ?_ ?_
        rotate_left
        · intro w' hSw; (try dsimp only at hSw); go_simp; try (with_reducible rfl)
        rotate_left
        · simp only [Act.put, List.setIfInBounds_toArray, List.set_cons_zero, List.set_cons_succ]
          rfl
        refine takeH (i := 67) (N := some 113) (v := ?_) (a' := ?_) rfl rfl (by kernel_rfl) (by kernel_rfl) (by kernel_rfl) (fun _ _ _ h => h) (Or.inl ⟨by rfl, ?_⟩) hHeld ?_ ?_
        rotate_left
        · intro w' hSw; (try dsimp only at hSw); go_simp; try (with_reducible rfl)
        rotate_left
        · simp only [Act.put, List.setIfInBounds_toArray, List.set_cons_zero, List.set_cons_succ]
          rfl
        clear hHeld
        refine wpAnyH_done (by kernel_rfl) ?_ _
        refine NoPanic.normal ?_
        go_wp2_with fail
        go_roundg (gk - 1)
        case measure => have := hj.out; omega
        case rel => exact ⟨j + 1, by go_num, ⟨by have := hj.out; omega⟩, ⟨⟨h', last', lv7, _, c4, QL16.out.a, QV7.out, QL16.out.rbx, QL16.out.r⟩, QL16.out.chg⟩⟩
    · have QB := Aside0.mk HI.out.chg.below
      clear HI
      go_wp2_with fail
      refine (alive_calls wr).mono ?_
      rintro e wz ⟨rfl, hb⟩
      have QZ := Aside0.mk (below_then QB.out QB.out.size hb)
      clear hb QB
      go_wp2_with fail
      go_ret
      exact ⟨rfl, QZ.out⟩
end Go.Proofs.Ytpfoefmcjbdeeaa
