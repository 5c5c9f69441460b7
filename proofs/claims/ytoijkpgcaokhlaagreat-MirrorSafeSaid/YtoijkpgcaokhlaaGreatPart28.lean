/- Maps of blocks: which entry may be, of a block that lives. -/
import Derived.Test.YtoijkpgcaokhlaaGreatPart12
import Derived.Test.YtoijkpgcaokhlaaGreatPart07
import Derived.Test.YtoijkpgcaokhlaaGreatPart13
import Derived.Test.YtoijkpgcaokhlaaGreatPart24
import Derived.Test.YtoijkpgcaokhlaaGreatPart08
import Derived.Test.YtoijkpgcaokhlaaGreatPart22
import Derived.Test.YtoijkpgcaokhlaaGreatPart10
import Derived.Test.YtoijkpgcaokhlaaGreatPart16
import Derived.Test.YtoijkpgcaokhlaaGreatPart27
set_option linter.unusedVariables false
set_option linter.unusedSimpArgs false
namespace Go.Rv
open Go Go.RowKit Go.Proofs
attribute [local irreducible] wpQuiet tab0 tabV
attribute [local go_sem ↓] ld_Geom st_Geom al_Geom
attribute [local go_sem] cellsAt_new0 cellsAt_lt cellsAt_drew size_bytesV

def EntS.live (e : EntS) (g : GeomS) : Bool := g.holds e.zone e.off && g.holds e.mate e.off && (g.domain e.zone != g.domain e.mate) && decide (1 ≤ e.seq) && decide (e.seq ≤ 281474976710655) && decide (0 ≤ e.sum) && decide (e.sum ≤ 4294967295)

set_option maxHeartbeats 4000000 in
set_option maxRecDepth 100000 in
theorem blive_calls (e : EntS) (g : GeomS) (hg : g.Small) (h1 : e.state = 1) (w : World) : Calls Tryz.prog 43 #[.agg (entC e), geomV g] w fun r w' => r = .returned (.bool (e.live g)) ∧ Keeps (fun _ => False) w w' := by
  have b0 := heap_old _ (.cells (geomC g) 23) (heap_new w (.cells (entC e) 83))
  have b1 : ((w.alloc (.cells (entC e) 83)).alloc (.cells (geomC g) 23)).heap[w.heap.size + 1]? = some (.cells (geomC g) 23 (0, 0)) := by
    have := heap_new (w.alloc (.cells (entC e) 83)) (.cells (geomC g) 23)
    rwa [World.size_alloc] at this
  have hk0 : Keeps (fun _ => False) w ((w.alloc (.cells (entC e) 83)).alloc (.cells (geomC g) 23)) := (by repeat (first | exact Keeps.refl _ _ | refine Keeps.alloc ?_ _ | refine Keeps.drew ?_ | refine Keeps.drewN ?_ _ | refine Keeps.trans ?_ (by assumption)))
  obtain ⟨w0, hw0⟩ : ∃ w0, (w.alloc (.cells (entC e) 83)).alloc (.cells (geomC g) 23) = w0 := ⟨_, rfl⟩
  rw [hw0] at b0 b1 hk0
  have H := hid (And.intro b0 (And.intro b1 hk0))
  have HF : Hid (∀ W, Keeps (fun _ => False) w0 W → W.cell? ⟨w.heap.size, 1, none⟩ = some (.int .i64 e.zone) ∧ W.cell? ⟨w.heap.size, 2, none⟩ = some (.int .i64 e.mate) ∧ W.cell? ⟨w.heap.size, 3, none⟩ = some (.int .i64 e.off) ∧ W.cell? ⟨w.heap.size, 4, none⟩ = some (.int .i64 e.seq) ∧ W.cell? ⟨w.heap.size, 5, none⟩ = some (.int .i64 e.sum) ∧ cellsAt W ⟨w.heap.size + 1, 0, none⟩ 6 = some (geomC g)) := hid fun W hW =>
    ⟨cell_of (hW.heap H.out.1 id) 1, cell_of (hW.heap H.out.1 id) 2, cell_of (hW.heap H.out.1 id) 3, cell_of (hW.heap H.out.1 id) 4, cell_of (hW.heap H.out.1 id) 5, cellsAt_full (hW.heap H.out.2.1 id) rfl⟩
  have HH : Hid (∀ z o W, Keeps (fun _ => False) w0 W → Calls Tryz.prog 92 #[.agg (geomC g), .int .i64 z, .int .i64 o] W fun r w' => r = .returned (.bool (g.holds z o)) ∧ Keeps (fun _ => False) W w') := hid fun z o W _ => holds_calls g z o W
  have HD : Hid (∀ z W, Keeps (fun _ => False) w0 W → Calls Tryz.prog 60 #[.agg (geomC g), .int .i64 z] W fun r w' => r = .returned (.int .i64 (g.domain z)) ∧ Keeps (fun _ => False) W w') := hid fun z W _ => domain_calls g hg z W
  have z0 : w0.cell? ⟨w.heap.size, 0, none⟩ = some (.int .i64 1) := by rw [← h1]; exact cell_of b0 0
  have HE := hid h1
  have hgv : geomV g = .agg (geomC g) := rfl
  rw [hgv]
  clear b0 b1 hk0 h1 hgv hg
  obtain ⟨RR, hRR⟩ : ∃ RR, e.live g = RR := ⟨_, rfl⟩
  rw [hRR]
  unfold EntS.live at hRR
  unfold entC at hw0 ⊢
  have HRR := hid hRR
  clear hRR
  cases k1 : g.holds e.zone e.off
  rotate_left
  cases k2 : g.holds e.mate e.off
  rotate_left
  cases k3 : (g.domain e.zone != g.domain e.mate)
  rotate_left
  cases k4 : decide (1 ≤ e.seq)
  rotate_left
  cases k5 : decide (e.seq ≤ 281474976710655)
  rotate_left
  cases k6 : decide (0 ≤ e.sum)
  rotate_left
  cases k7 : decide (e.sum ≤ 4294967295)
  rotate_left
  all_goals
    go_enter Tryz.func43, Tryz.ntmps43
    go_wp2_with fail
    refine wp_region_still (by kernel_rfl) (by kernel_rfl) ?_
    repeat (first | (refine still_pass ?_ ?_; (focus (first | (go_simp; done) | rfl)); try simp only [Act.put, List.setIfInBounds_toArray, List.set_cons_succ, List.set_cons_zero]) | (apply still_step; (focus (go_simp; done)); (focus (intro W hW; unfold Oper.quietAt; (obtain ⟨c1, c2, c3, c4, c5, c6⟩ := HF.out W hW); go_simp; first | done | with_reducible rfl | (first | (go_at_call 92; exact still_call hW (HH.out _ _ W hW)) | (go_at_call 60; exact still_call hW (HD.out _ W hW))) | exact ⟨rfl, rfl⟩)); try simp only [Act.put, List.setIfInBounds_toArray, List.set_cons_succ, List.set_cons_zero]))
    refine wpQuiet_nil ?_
    intro W hW
    have HW := hid hW
    clear hW
    go_wp2_with fail
    go_ret
    exact ⟨by rw [← HRR.out]; simp [*], H.out.2.2.trans HW.out⟩
end Go.Rv

/- Mirrors: a zone of a segment is let go; the open segment is closed. -/
namespace Go.Rv
open Go Go.RowKit Go.Proofs
attribute [local irreducible] wpQuiet tab0 tabV
attribute [local go_sem] cellsAt_new0 cellsAt_lt cellsAt_drew size_bytesV

theorem MirAt.rest {w w' : World} {own : Nat → Nat} {mb pb db plb : Nat} {M : MirS} (h : MirAt w own mb pb db plb M) (hset : Settled own w) (hk : Keeps (fun _ => False) w w') (A : Nat → Prop) : ∃ own', MirAt w' own' mb pb db plb M ∧ Step A w own w' own' ∧ Settled own' w' :=
  ⟨own, h.still hk, (Step.kept (A := A) (hk.mono fun _ _ h => h.elim) hset).1, hset.keeps hk⟩

/-- a zone of a segment with u sectors is let go. -/
def MirS.leave (M : MirS) (z u : Int) : MirS × Int :=
  if z = -1 ∨ M.isBad z = true ∨ u = M.g.size then (M, 0)
  else if u = 0 then ({ M with p := (M.p.give z).1 }, (M.p.give z).2)
  else ({ M with d := (M.d.finish z).1 }, (M.d.finish z).2)

set_option maxHeartbeats 600000 in
set_option maxRecDepth 100000 in
theorem mleave_calls (own : Nat → Nat) (mb pb db plb : Nat) (M : MirS) (z u : Int) (w : World) (h : MirAt w own mb pb db plb M) (hset : Settled own w) : Calls Tryz.prog 123 #[.pointer (some ⟨mb, 0, none⟩), .int .i64 z, .int .i64 u] w fun e w' =>
    e = .returned (.int .i64 (M.leave z u).2) ∧ ∃ own', MirAt w' own' mb pb db plb (M.leave z u).1 ∧ Step mgTag w own w' own' ∧ Settled own' w' := by
  have H := hid (And.intro h hset)
  clear h hset
  obtain ⟨RR, hRR⟩ : ∃ RR, M.leave z u = RR := ⟨_, rfl⟩
  rw [hRR]
  unfold MirS.leave at hRR
  by_cases k1 : z = -1
  · rw [if_pos (.inl k1)] at hRR
    have b1 : (z == -1) = true := by simpa using k1
    have HRR := hid hRR
    clear hRR k1
    go_enter Tryz.func123, Tryz.ntmps123
    go_wp2_with fail
    go_ret
    rw [← HRR.out]
    exact ⟨rfl, H.out.1.rest H.out.2 (Keeps.refl _ _) _⟩
  · have b1 : (z == -1) = false := by simpa using k1
    cases hb : M.isBad z with
    | true =>
      rw [if_pos (.inr (.inl hb))] at hRR
      have HRR := hid hRR
      have HB := hid hb
      clear hRR k1 hb
      go_enter Tryz.func123, Tryz.ntmps123
      go_wp2_with fail
      refine Calls.mono (mbad_calls own mb pb db plb M z _ H.out.1) ?_
      rintro e w1 ⟨rfl, hk1⟩
      rw [HB.out]
      have HK := hid hk1
      clear hk1
      go_wp2_with fail
      go_ret
      rw [← HRR.out]
      exact ⟨rfl, H.out.1.rest H.out.2 HK.out _⟩
    | false =>
      have HB := hid hb
      by_cases k2 : u = M.g.size
      · rw [if_pos (.inr (.inr k2))] at hRR
        have b2 : (u == M.g.size) = true := by simpa using k2
        have HRR := hid hRR
        clear hRR k1 hb k2
        go_enter Tryz.func123, Tryz.ntmps123
        go_wp2_with fail
        refine Calls.mono (mbad_calls own mb pb db plb M z _ H.out.1) ?_
        rintro e w1 ⟨rfl, hk1⟩
        rw [HB.out]
        obtain ⟨-, c3, -⟩ := (H.out.1.still hk1).go
        have HK := hid hk1
        clear hk1
        go_wp2_with fail
        go_ret
        rw [← HRR.out]
        exact ⟨rfl, H.out.1.rest H.out.2 HK.out _⟩
      · rw [if_neg (by rw [hb]; simp; exact ⟨k1, k2⟩)] at hRR
        have b2 : (u == M.g.size) = false := by simpa using k2
        by_cases k3 : u = 0
        · rw [if_pos k3] at hRR
          have b3 : (u == 0) = true := by simpa using k3
          have HRR := hid hRR
          clear hRR k1 hb k2 k3
          go_enter Tryz.func123, Tryz.ntmps123
          go_wp2_with fail
          refine Calls.mono (mbad_calls own mb pb db plb M z _ H.out.1) ?_
          rintro e w1 ⟨rfl, hk1⟩
          rw [HB.out]
          have hM1 := H.out.1.still hk1
          obtain ⟨-, c3, cp, -⟩ := hM1.go
          have HK := hid (And.intro hM1 (And.intro hk1 (H.out.2.keeps hk1)))
          clear hk1 hM1
          go_wp2_with fail
          refine Calls.mono (give_calls own plb M.p z _ HK.out.1.pool HK.out.1.ok.pool HK.out.2.2) ?_
          rintro e w6 ⟨rfl, hp6, hk6⟩
          have hst6 := Step.kept (A := poolTag) hk6 HK.out.2.2
          have hM6 := HK.out.1.turnp hst6.1 hp6 (HK.out.1.ok.pool.give z) ((M.p.give_g z).trans HK.out.1.ok.pg)
          have HZ := hid (And.intro hM6 (And.intro ((Step.kept (A := mgTag) (HK.out.2.1.mono fun _ _ h => h.elim) H.out.2).1.trans (hst6.1.mono (B := mgTag) fun t h => .inr (.inr h))) hst6.2))
          clear hp6 hk6 hst6 hM6
          go_wp2_with fail
          go_ret
          rw [← HRR.out]
          exact ⟨rfl, own, HZ.out⟩
        · rw [if_neg k3] at hRR
          have b3 : (u == 0) = false := by simpa using k3
          have HRR := hid hRR
          clear hRR k1 hb k2 k3
          go_enter Tryz.func123, Tryz.ntmps123
          go_wp2_with fail
          refine Calls.mono (mbad_calls own mb pb db plb M z _ H.out.1) ?_
          rintro e w1 ⟨rfl, hk1⟩
          rw [HB.out]
          have hM1 := H.out.1.still hk1
          obtain ⟨c0, c3, -⟩ := hM1.go
          have HK := hid (And.intro hM1 (And.intro hk1 (H.out.2.keeps hk1)))
          clear hk1 hM1
          go_wp2_with fail
          refine Calls.mono (pfinish_calls own pb db M.d z _ HK.out.1.drive HK.out.2.2) ?_
          rintro e w6 ⟨rfl, own6, hd6, hs6, hset6⟩
          have hM6 := HK.out.1.turn hs6 hd6 (M.d.like_finish z)
          have HZ := hid (And.intro hM6 (And.intro ((Step.kept (A := mgTag) (HK.out.2.1.mono fun _ _ h => h.elim) H.out.2).1.trans (hs6.mono (B := mgTag) fun t h => .inr (.inl h))) hset6))
          clear hd6 hs6 hset6 hM6
          go_wp2_with fail
          go_ret
          rw [← HRR.out]
          exact ⟨rfl, own6, HZ.out⟩

def MirS.shut (M : MirS) : MirS := { M with a := -1, b := -1, used := 0 }
/-- the open segment is closed. -/
def MirS.close (M : MirS) : MirS × Int :=
  (((M.shut.leave M.a M.used).1.leave M.b M.used).1, if (M.shut.leave M.a M.used).2 = 0 then ((M.shut.leave M.a M.used).1.leave M.b M.used).2 else (M.shut.leave M.a M.used).2)

set_option maxHeartbeats 600000 in
set_option maxRecDepth 100000 in
theorem mclose_calls (own : Nat → Nat) (mb pb db plb : Nat) (M : MirS) (w : World) (h : MirAt w own mb pb db plb M) (hset : Settled own w) : Calls Tryz.prog 70 #[.pointer (some ⟨mb, 0, none⟩)] w fun e w' =>
    e = .returned (.int .i64 M.close.2) ∧ ∃ own', MirAt w' own' mb pb db plb M.close.1 ∧ Step mgTag w own w' own' ∧ Settled own' w' := by
  have H := hid (And.intro h hset)
  have HF : Hid (∀ W, Keeps (fun _ => False) w W → W.cell? ⟨mb, 265, none⟩ = some (.int .i64 M.a) ∧ W.cell? ⟨mb, 266, none⟩ = some (.int .i64 M.b) ∧ W.cell? ⟨mb, 267, none⟩ = some (.int .i64 M.used)) := hid fun W hW => by
    obtain ⟨-, -, -, c5, c6, c7, -⟩ := (H.out.1.still hW).go
    exact ⟨c5, c6, c7⟩
  clear h hset
  obtain ⟨RR, hRR⟩ : ∃ RR, M.close = RR := ⟨_, rfl⟩
  rw [hRR]
  unfold MirS.close at hRR
  have HRR := hid hRR
  clear hRR
  go_enter Tryz.func70, Tryz.ntmps70
  go_wp2_with fail
  refine wp_region_still (by kernel_rfl) (by kernel_rfl) ?_
  repeat (first | (refine still_pass ?_ ?_; (focus (first | (go_simp; done) | rfl)); try simp only [Act.put, List.setIfInBounds_toArray, List.set_cons_succ, List.set_cons_zero]) | (apply still_step; (focus (go_simp; done)); (focus (intro W hW; unfold Oper.quietAt; (obtain ⟨c5, c6, c7⟩ := HF.out W hW); go_simp; first | done | with_reducible rfl | fail | exact ⟨rfl, rfl⟩)); try simp only [Act.put, List.setIfInBounds_toArray, List.set_cons_succ, List.set_cons_zero]))
  refine wpQuiet_nil ?_
  intro W hW
  have hM := H.out.1.still hW
  have hS := H.out.2.keeps hW
  obtain ⟨bb, bc, cur, h1⟩ := hM.head
  obtain ⟨-, -, -, c5, c6, c7, f5, f6, f7⟩ := hM.go
  have hx := heap_set (heap_set (heap_set h1.heap 265 (.int .i64 (-1))) 266 (.int .i64 (-1))) 267 (.int .i64 0)
  rw [mirC_all _ _ _ _ _ _ _ _ _ _ _ (size_tabV tab0)] at hx
  have ho := MirAt.open h1 hM hS (-1) (-1) 0 (keeps_set (keeps_set (keeps_set (Keeps.refl _ _) _ _) _ _) _ _) hx
  have H7 := hid (And.intro ho.1 (And.intro ((Step.kept (A := mgTag) (hW.mono fun _ _ h => h.elim) H.out.2).1.trans (ho.2.1.mono (B := mgTag) fun t h => .inl h)) ho.2.2))
  clear hW hM hS h1 hx ho
  go_wp2_with fail
  obtain ⟨w3, hw3⟩ : ∃ w3, ((W.setCell ⟨mb, 265, none⟩ (.int .i64 (-1))).setCell ⟨mb, 266, none⟩ (.int .i64 (-1))).setCell ⟨mb, 267, none⟩ (.int .i64 0) = w3 := ⟨_, rfl⟩
  rw [hw3] at H7 ⊢
  refine Calls.mono (mleave_calls own mb pb db plb M.shut M.a M.used w3 H7.out.1 H7.out.2.2) ?_
  rintro r w4 ⟨rfl, own4, hM4, hs4, hset4⟩
  have H4 := hid (And.intro hM4 (And.intro (H7.out.2.1.trans hs4) hset4))
  obtain ⟨L1, hL1⟩ : ∃ L1, M.shut.leave M.a M.used = L1 := ⟨_, rfl⟩
  rw [hL1] at H4 HRR ⊢
  clear hM4 hs4 hset4 hw3 hL1 c5 c6 c7 f5 f6 f7
  go_wp2_with fail
  refine Calls.mono (mleave_calls own4 mb pb db plb L1.1 M.b M.used w4 H4.out.1 H4.out.2.2) ?_
  rintro r w5 ⟨rfl, own5, hM5, hs5, hset5⟩
  have H5 := hid (And.intro hM5 (And.intro (H4.out.2.1.trans hs5) hset5))
  obtain ⟨L2, hL2⟩ : ∃ L2, L1.1.leave M.b M.used = L2 := ⟨_, rfl⟩
  rw [hL2] at H5 HRR ⊢
  clear hM5 hs5 hset5 hL2
  by_cases k : L1.2 = 0
  · have b1 : (L1.2 == 0) = true := by simpa using k
    have hR := HRR.out
    rw [if_pos k] at hR
    have HR := hid hR
    clear k hR
    go_wp2_with fail
    go_ret
    rw [← HR.out]
    exact ⟨rfl, own5, H5.out⟩
  · have b1 : (L1.2 == 0) = false := by simpa using k
    have hR := HRR.out
    rw [if_neg k] at hR
    have HR := hid hR
    clear k hR
    go_wp2_with fail
    go_ret
    rw [← HR.out]
    exact ⟨rfl, own5, H5.out⟩
end Go.Rv

/- Mirrors: a zone is quarantined, wherever it lies. -/
namespace Go.Rv
open Go Go.RowKit Go.Proofs
attribute [local irreducible] wpQuiet tab0 tabV
attribute [local go_sem ↓] ld_Geom st_Geom al_Geom ld_Table st_Table al_Table
attribute [local go_sem] cellsAt_new0 cellsAt_lt cellsAt_drew size_bytesV

/-- a zone is quarantined. -/
def MirS.quarG (M : MirS) (z : Int) : MirS × Int :=
  if M.g.domain z < 0 then (M, 13) else if M.isBad z then (M, 16) else if z ≠ M.a ∧ z ≠ M.b then (M.mark z, 0)
  else ((M.mark z).close.1, if (M.mark z).close.2 = 34 then 34 else 0)
theorem MirS.quarG_far {M : MirS} {z : Int} (h : 0 ≤ M.g.domain z → z ≠ M.a ∧ z ≠ M.b) : M.quarG z = M.quar z := by
  unfold MirS.quarG MirS.quar
  split
  · rfl
  · split
    · rfl
    · rw [if_pos (h (by omega))]

set_option maxHeartbeats 500000 in
set_option maxRecDepth 100000 in
theorem quarg_calls (own : Nat → Nat) (mb pb db plb : Nat) (M : MirS) (z : Int) (w : World) (h : MirAt w own mb pb db plb M) (hset : Settled own w) :
    Calls Tryz.prog 20 #[.pointer (some ⟨mb, 0, none⟩), .int .i64 z] w fun e w' => e = .returned (.int .i64 (M.quarG z).2) ∧ ∃ own', MirAt w' own' mb pb db plb (M.quarG z).1 ∧ Step mgTag w own w' own' ∧ Settled own' w' := by
  have hh := h
  obtain ⟨⟨bb, bc, cur, h1⟩, -, -, hok⟩ := hh
  obtain ⟨-, c1, -, -, -, -⟩ := h1.cells
  have H := hid (And.intro h (And.intro hset h1))
  have hsm := M.g.right_small hok.right
  have HSM := hid hsm
  have HOK := hid hok
  have HG : Hid (geomV M.g = .agg (geomC M.g)) := hid rfl
  have hal := M.g.all_bd hsm
  clear h h1 hok hsm hset
  unfold MirS.quarG
  by_cases k1 : M.g.domain z < 0
  · have d1 : decide (M.g.domain z < 0) = true := by simpa using k1
    rw [if_pos k1]
    clear k1
    go_enter Tryz.func20, Tryz.ntmps20
    go_wp2_with fail
    rw [← HG.out]
    refine Calls.mono (domain_calls M.g HSM.out _ _) ?_
    rintro e w1 ⟨rfl, hk⟩
    have HK := hid hk
    clear hk
    go_wp2_with fail
    go_ret
    exact ⟨rfl, H.out.1.rest H.out.2.1 HK.out _⟩
  · have d1 : decide (M.g.domain z < 0) = false := by simpa using k1
    rw [if_neg k1]
    obtain ⟨z0, z1⟩ := GeomS.domain_in (g := M.g) (z := z) (by omega)
    have HK1 := hid k1
    clear k1
    cases hb : M.isBad z with
    | true =>
      have HB := hid hb
      clear hb
      go_enter Tryz.func20, Tryz.ntmps20
      go_wp2_with fail
      rw [← HG.out]
      refine Calls.mono (domain_calls M.g HSM.out _ _) ?_
      rintro e w1 ⟨rfl, hk⟩
      have HK := hid hk
      clear hk
      go_wp2_with fail
      refine Calls.mono (mbad_calls own mb pb db plb M z _ (H.out.1.still HK.out)) ?_
      rintro e w2 ⟨rfl, hk⟩
      have HK2 := hid (HK.out.trans hk)
      clear hk
      rw [HB.out]
      go_wp2_with fail
      go_ret
      exact ⟨rfl, H.out.1.rest H.out.2.1 HK2.out _⟩
    | false =>
      obtain ⟨i, rfl⟩ : ∃ i : Nat, z = i := ⟨z.toNat, by omega⟩
      have HB := hid hb
      have HZ := hid z1
      have hlt : i < M.g.all.toNat := by omega
      clear hb z0 z1
      rw [if_neg Bool.false_ne_true]
      obtain ⟨RR, hRR⟩ : ∃ RR, (if (i : Int) ≠ M.a ∧ (i : Int) ≠ M.b then (M.mark i, 0) else ((M.mark i).close.1, if (M.mark i).close.2 = 34 then 34 else 0) : MirS × Int) = RR := ⟨_, rfl⟩
      rw [hRR]
      have HRR := hid hRR
      clear hRR
      go_enter Tryz.func20, Tryz.ntmps20
      go_wp2_with fail
      rw [← HG.out]
      refine Calls.mono (domain_calls M.g HSM.out _ _) ?_
      rintro e w1 ⟨rfl, hk⟩
      have HK := hid hk
      clear hk
      go_wp2_with fail
      refine Calls.mono (mbad_calls own mb pb db plb M i _ (H.out.1.still HK.out)) ?_
      rintro e w2 ⟨rfl, hk⟩
      have hk2 := HK.out.trans hk
      rw [HB.out]
      have hM2 := H.out.1.still hk2
      have hh2 := H.out.2.2.keeps hk2 (fun _ _ => id)
      obtain ⟨-, -, -, -, c4, -⟩ := hh2.cells
      have hci := (cell_of hh2.list i).trans (hh2.elems i HZ.out)
      have hfi := free_of hh2.list i
      obtain ⟨r1, r2, r3⟩ := MirAt.setBad hh2 hM2 (H.out.2.1.keeps hk2) HZ.out
      have h3 : MirHead (w2.setCell ⟨bb, i, none⟩ (.int .i64 1)) own mb pb plb M bb bc cur → True := fun _ => trivial
      have HX := hid (And.intro hk2 (And.intro r1 (And.intro r2 r3)))
      obtain ⟨w3, hw3⟩ : ∃ w3, w2.setCell ⟨bb, i, none⟩ (.int .i64 1) = w3 := ⟨_, rfl⟩
      rw [hw3] at HX
      obtain ⟨⟨bb3, bc3, cur3, g3⟩, -, -, hok3⟩ := HX.out.2.1
      obtain ⟨-, -, -, c3, -, c5, c6, -⟩ := g3.cells
      have HO3 := hid hok3
      clear hk hk2 hM2 hh2 r1 r2 r3 h3 g3 hok3
      go_wp2_with fail
      refine Calls.mono (drop_calls own plb M.p i w3 HX.out.2.1.pool HO3.out.pool HX.out.2.2.2) ?_
      rintro e w4 ⟨rfl, hp4, hk4⟩
      have s4 := Step.kept (A := poolTag) hk4 HX.out.2.2.2
      have hM4 := HX.out.2.1.turnp s4.1 hp4 (HOK.out.pool.drop i) (by unfold PoolS.drop; split <;> exact HOK.out.pg)
      have st := ((Step.kept (A := mgTag) (HX.out.1.mono fun _ _ h => h.elim) H.out.2.1).1.trans (HX.out.2.2.1.mono fun t h => .inl h)).trans (s4.1.mono fun t h => .inr (.inr h))
      have HY := hid (And.intro hM4 (And.intro st s4.2))
      obtain ⟨⟨bb4, bc4, cur4, g4⟩, -, -, -⟩ := hM4
      obtain ⟨-, -, -, -, -, c5, c6, -⟩ := g4.cells
      have ea : (MirS.setBad M i).a = M.a := rfl
      have eb : (MirS.setBad M i).b = M.b := rfl
      simp only [ea, eb] at c5 c6
      have hmk : ({ M.setBad i with p := (M.p.drop i).1 } : MirS) = M.mark i := rfl
      clear hp4 hk4 s4 g4 st hw3 ea eb hmk
      have fin : ∀ (w5 : World) own5, MirAt w5 own5 mb pb db plb (M.mark i).close.1 → Step mgTag w4 own w5 own5 → Settled own5 w5 → ¬ ((i : Int) ≠ M.a ∧ (i : Int) ≠ M.b) → (M.mark i).close.1 = RR.1 ∧ (if (M.mark i).close.2 = 34 then 34 else 0) = RR.2 ∧ ∃ own', MirAt w5 own' mb pb db plb RR.1 ∧ Step mgTag w own w5 own' ∧ Settled own' w5 := fun w5 own5 h1 h2 h3 hn => by
        rw [← HRR.out, if_neg hn]
        exact ⟨rfl, rfl, own5, h1, HY.out.2.1.trans h2, h3⟩
      have HFN := hid fin
      clear fin
      by_cases k2 : (i : Int) = M.a
      · have za : ((i : Int) != M.a) = false := by simpa using k2
        have hn : ¬ ((i : Int) ≠ M.a ∧ (i : Int) ≠ M.b) := fun h => h.1 k2
        have HN := hid hn
        clear k2 hn
        go_wp2_with fail
        refine Calls.mono (mclose_calls own mb pb db plb (M.mark i) w4 HY.out.1 HY.out.2.2) ?_
        rintro e w5 ⟨rfl, own5, hM5, hs5, hset5⟩
        have HZ := hid (HFN.out w5 own5 hM5 hs5 hset5 HN.out)
        clear hM5 hs5 hset5
        by_cases k3 : (M.mark i).close.2 = 34
        · have b3 : ((M.mark i).close.2 == 34) = true := by simpa using k3
          have hz := HZ.out
          rw [if_pos k3] at hz
          have HZ2 := hid hz
          clear k3 hz
          go_wp2_with fail
          go_ret
          rw [← HZ2.out.2.1]
          exact ⟨rfl, HZ2.out.2.2⟩
        · have b3 : ((M.mark i).close.2 == 34) = false := by simpa using k3
          have hz := HZ.out
          rw [if_neg k3] at hz
          have HZ2 := hid hz
          clear k3 hz
          go_wp2_with fail
          go_ret
          rw [← HZ2.out.2.1]
          exact ⟨rfl, HZ2.out.2.2⟩
      · have za : ((i : Int) != M.a) = true := by simpa using k2
        by_cases k4 : (i : Int) = M.b
        · have zb : ((i : Int) != M.b) = false := by simpa using k4
          have hn : ¬ ((i : Int) ≠ M.a ∧ (i : Int) ≠ M.b) := fun h => h.2 k4
          have HN := hid hn
          clear k2 k4 hn
          go_wp2_with fail
          refine Calls.mono (mclose_calls own mb pb db plb (M.mark i) w4 HY.out.1 HY.out.2.2) ?_
          rintro e w5 ⟨rfl, own5, hM5, hs5, hset5⟩
          have HZ := hid (HFN.out w5 own5 hM5 hs5 hset5 HN.out)
          clear hM5 hs5 hset5
          by_cases k3 : (M.mark i).close.2 = 34
          · have b3 : ((M.mark i).close.2 == 34) = true := by simpa using k3
            have hz := HZ.out
            rw [if_pos k3] at hz
            have HZ2 := hid hz
            clear k3 hz
            go_wp2_with fail
            go_ret
            rw [← HZ2.out.2.1]
            exact ⟨rfl, HZ2.out.2.2⟩
          · have b3 : ((M.mark i).close.2 == 34) = false := by simpa using k3
            have hz := HZ.out
            rw [if_neg k3] at hz
            have HZ2 := hid hz
            clear k3 hz
            go_wp2_with fail
            go_ret
            rw [← HZ2.out.2.1]
            exact ⟨rfl, HZ2.out.2.2⟩
        · have zb : ((i : Int) != M.b) = true := by simpa using k4
          have hr : RR = (M.mark i, 0) := by rw [← HRR.out, if_pos ⟨k2, k4⟩]
          have HR := hid hr
          clear k2 k4 hr
          go_wp2_with fail
          go_ret
          rw [HR.out]
          exact ⟨rfl, own, HY.out⟩

set_option maxHeartbeats 400000 in
theorem mlost_calls (own : Nat → Nat) (mb pb db plb : Nat) (M : MirS) (z : Int) (w : World) (h : MirAt w own mb pb db plb M) (hset : Settled own w) :
    Calls Tryz.prog 134 #[.pointer (some ⟨mb, 0, none⟩), .int .i64 z] w fun e w' => e = .returned (.int .i64 (if (M.quarG z).2 = 34 then 34 else 0)) ∧ ∃ own', MirAt w' own' mb pb db plb (M.quarG z).1 ∧ Step mgTag w own w' own' ∧ Settled own' w' := by
  have hq := quarg_calls own mb pb db plb M z w h hset
  obtain ⟨Q, hQ⟩ : ∃ Q, M.quarG z = Q := ⟨_, rfl⟩
  rw [hQ] at hq ⊢
  have HQ := hid hq
  obtain ⟨RR, hRR⟩ : ∃ RR, (if Q.2 = 34 then 34 else 0 : Int) = RR := ⟨_, rfl⟩
  rw [hRR]
  clear h hset hq hQ
  go_enter Tryz.func134, Tryz.ntmps134
  go_wp2_with fail
  refine Calls.mono HQ.out ?_
  rintro e w1 ⟨rfl, hx⟩
  have HX := hid hx
  clear hx
  by_cases k : Q.2 = 34
  · have b3 : (Q.2 == 34) = true := by simpa using k
    rw [if_pos k] at hRR
    subst hRR
    clear k
    go_wp2_with fail
    go_ret
    exact ⟨rfl, HX.out⟩
  · have b3 : (Q.2 == 34) = false := by simpa using k
    rw [if_neg k] at hRR
    subst hRR
    clear k
    go_wp2_with fail
    go_ret
    exact ⟨rfl, HX.out⟩
end Go.Rv

/- Mirrors: whether an entry may be read; what a sector says of it. -/
namespace Go.Rv
open Go Go.RowKit Go.Proofs
attribute [local irreducible] wpQuiet tab0 tabV
attribute [local go_sem ↓] ld_Geom st_Geom al_Geom ld_Ent st_Ent al_Ent
attribute [local go_sem] cellsAt_new0 cellsAt_lt cellsAt_drew size_bytesV

/-- may an entry be read? -/
def MirS.lives (M : MirS) (x : EntS) : Bool := decide (x.state = 1) && x.live M.g

set_option maxHeartbeats 600000 in
set_option maxRecDepth 100000 in
theorem mlives_calls (own : Nat → Nat) (mb pb db plb : Nat) (M : MirS) (x : EntS) (w : World) (h : MirAt w own mb pb db plb M) : Calls Tryz.prog 83 #[.pointer (some ⟨mb, 0, none⟩), .agg (entC x)] w fun e w' => e = .returned (.bool (M.lives x)) ∧ Keeps (fun _ => False) w w' := by
  have b0 := heap_new w (.cells (entC x) 83)
  have hk0 : Keeps (fun _ => False) w (w.alloc (.cells (entC x) 83)) := (by repeat (first | exact Keeps.refl _ _ | refine Keeps.alloc ?_ _ | refine Keeps.drew ?_ | refine Keeps.drewN ?_ _ | refine Keeps.trans ?_ (by assumption)))
  obtain ⟨w0, hw0⟩ : ∃ w0, w.alloc (.cells (entC x) 83) = w0 := ⟨_, rfl⟩
  rw [hw0] at b0 hk0
  have H := hid (And.intro b0 (And.intro hk0 h))
  have HF : Hid (∀ W, Keeps (fun _ => False) w0 W → W.cell? ⟨w.heap.size, 0, none⟩ = some (.int .i64 x.state) ∧ cellsAt W ⟨w.heap.size, 0, none⟩ 6 = some (entC x) ∧ cellsAt W ⟨mb, 1, none⟩ 6 = some (geomC M.g)) := hid fun W hW => by
    obtain ⟨⟨bb, bc, cur, h1⟩, -⟩ := H.out.2.2.still (H.out.2.1.trans hW)
    exact ⟨cell_of (hW.heap H.out.1 id) 0, cellsAt_full (hW.heap H.out.1 id) rfl, h1.cells.2.1⟩
  have hsm := M.g.right_small h.ok.right
  obtain ⟨RR, hRR⟩ : ∃ RR, M.lives x = RR := ⟨_, rfl⟩
  rw [hRR]
  unfold MirS.lives at hRR
  by_cases k : x.state = 1
  · have b1 : (x.state == 1) = true := by simpa using k
    rw [decide_eq_true k, Bool.true_and] at hRR
    have HC : Hid (∀ W, Keeps (fun _ => False) w0 W → Calls Tryz.prog 43 #[.agg (entC x), .agg (geomC M.g)] W fun r w' => r = .returned (.bool RR) ∧ Keeps (fun _ => False) W w') := hid fun W _ => hRR ▸ blive_calls x M.g hsm k W
    clear b0 hk0 h hsm hRR k
    go_enter Tryz.func83, Tryz.ntmps83
    go_wp2_with fail
    try rw [hw0]
    refine wp_region_still (by kernel_rfl) (by kernel_rfl) ?_
    repeat (first | (refine still_pass ?_ ?_; (focus (first | (go_simp; done) | rfl)); try simp only [Act.put, List.setIfInBounds_toArray, List.set_cons_succ, List.set_cons_zero]) | (apply still_step; (focus (go_simp; done)); (focus (intro W hW; unfold Oper.quietAt; (obtain ⟨c0, c1, c2⟩ := HF.out W hW); go_simp; first | done | with_reducible rfl | (go_at_call 43; exact still_call hW (HC.out W hW)) | exact ⟨rfl, rfl⟩)); try simp only [Act.put, List.setIfInBounds_toArray, List.set_cons_succ, List.set_cons_zero]))
    refine wpQuiet_nil ?_
    intro W hW
    have HW := hid hW
    clear hW
    go_wp2_with fail
    go_ret
    exact ⟨rfl, H.out.2.1.trans HW.out⟩
  · have b1 : (x.state == 1) = false := by simpa using k
    rw [decide_eq_false k, Bool.false_and] at hRR
    subst hRR
    clear b0 hk0 h hsm k
    go_enter Tryz.func83, Tryz.ntmps83
    go_wp2_with fail
    try rw [hw0]
    refine wp_region_still (by kernel_rfl) (by kernel_rfl) ?_
    repeat (first | (refine still_pass ?_ ?_; (focus (first | (go_simp; done) | rfl)); try simp only [Act.put, List.setIfInBounds_toArray, List.set_cons_succ, List.set_cons_zero]) | (apply still_step; (focus (go_simp; done)); (focus (intro W hW; unfold Oper.quietAt; (obtain ⟨c0, c1, c2⟩ := HF.out W hW); go_simp; first | done | with_reducible rfl | fail | exact ⟨rfl, rfl⟩)); try simp only [Act.put, List.setIfInBounds_toArray, List.set_cons_succ, List.set_cons_zero]))
    refine wpQuiet_nil ?_
    intro W hW
    have HW := hid hW
    clear hW
    go_wp2_with fail
    go_ret
    exact ⟨rfl, H.out.2.1.trans HW.out⟩

/-- what a place's sector says of an entry: its bytes, and whether it is good. -/
def cpOf (x : EntS) (zone mate : Int) (s : List UInt8) : List UInt8 × Bool :=
  if (atR tab0 s zone x.off).2 ≠ 0 ∨ (atR tab0 s zone x.off).1.kind = 2 ∨ (atR tab0 s zone x.off).1.seq ≠ x.seq then (zero32, false)
  else if (readR (atR tab0 s zone x.off).1).2 ≠ 0 ∨ (readR (atR tab0 s zone x.off).1).1.mate ≠ mate ∨ crcSum tab0 (readR (atR tab0 s zone x.off).1).1.bytes ≠ x.sum then (zero32, false)
  else ((readR (atR tab0 s zone x.off).1).1.bytes, true)
/-- a copy of an entry is read. -/
def MirS.cp (M : MirS) (x : EntS) (zone mate : Int) : MirS × List UInt8 × Bool × Int :=
  if (M.d.read zone x.off).2.2 = 0 then ({ M with d := (M.d.read zone x.off).1 }, (cpOf x zone mate (M.d.read zone x.off).2.1).1, (cpOf x zone mate (M.d.read zone x.off).2.1).2, 0)
  else if (M.d.read zone x.off).2.2 = 34 then ({ M with d := (M.d.read zone x.off).1 }, zero32, false, 34)
  else if (M.d.read zone x.off).2.2 = 32 then ((({ M with d := (M.d.read zone x.off).1 } : MirS).quarG zone).1, zero32, false, if (({ M with d := (M.d.read zone x.off).1 } : MirS).quarG zone).2 = 34 then 34 else 0)
  else ({ M with d := (M.d.read zone x.off).1 }, zero32, false, 0)
end Go.Rv
