/- Areas: the zone that is written; an area is written. -/
import Derived.Test.YtoijkpgcaokhlaaGreatPart16
set_option linter.unusedVariables false
set_option linter.unusedSimpArgs false
namespace Go.Rv
open Go Go.RowKit Go.Proofs
attribute [local irreducible] wpQuiet tab0 tabV

def AreaS.target (A : AreaS) (i : Nat) : AreaS × Int :=
  if A.old i ≠ -1 ∧ A.m.isBad (A.old i) = false then (⟨A.m, A.cur, put1 A.old i (-1)⟩, A.old i)
  else match A.m.p.L i with
    | [] => (⟨A.m, A.cur, put1 A.old i (-1)⟩, -1)
    | x :: l => (⟨{ A.m with p := A.m.p.set i l }, A.cur, put1 A.old i (-1)⟩, x)

/-- the pool has turned, and nothing else of the mirror. -/
theorem MirAt.turnp {w w' : World} {own own' : Nat → Nat} {mb pb db plb : Nat} {M : MirS} (h : MirAt w own mb pb db plb M) (hs : Step poolTag w own w' own') {p' : PoolS} (hp : PoolAt w' own' plb p') (hok : p'.Ok) (hg : p'.g = M.g) : MirAt w' own' mb pb db plb { M with p := p' } := by
  obtain ⟨⟨bb, bc, cur, h1⟩, h2, h3, h4⟩ := h
  refine ⟨⟨bb, bc, cur, ?_⟩, h2.kept hs fun t ht hd => tags_apart.2.2 t ht hd, hp, ⟨h4.right, hok, hg, h4.nz, h4.size⟩⟩
  have := h1.kept hs tags_apart.2.1
  exact ⟨this.mine, this.mineb, this.heap, this.list, this.elems⟩

set_option maxHeartbeats 1000000 in
set_option maxRecDepth 100000 in
theorem atarget_calls (own : Nat → Nat) (ab mb pb db plb : Nat) (A : AreaS) (i : Nat) (hi : i < 3) (w : World) (h : AreAt w own ab mb pb db plb A) (hset : Settled own w) : Calls Tryz.prog 116 #[.pointer (some ⟨ab, 0, none⟩), .int .i64 i] w fun e w' =>
    e = .returned (.int .i64 (A.target i).2) ∧ AreAt w' own ab mb pb db plb (A.target i).1 ∧ Step (fun t => t = 6 ∨ poolTag t) w own w' own ∧ Settled own w' := by
  have d0 : (0 : Int) ≤ i := by omega
  obtain ⟨p1, p2, p3, p4⟩ := h.head.at hi
  obtain ⟨q1, q2⟩ := h.head.setOld hi (-1)
  obtain ⟨r1, r2, r3⟩ := h.turn hset q1 q2
  have hnd := h.mir.ok.pool.nd
  have HOK := hid h.mir.ok
  obtain ⟨w1, hw1⟩ : ∃ w1, w.setCell ⟨ab, 1 + i * 2 + 1, none⟩ (.int .i64 (-1)) = w1 := ⟨_, rfl⟩
  rw [hw1] at r1 r2 r3
  obtain ⟨ca, -⟩ := r1.head.cells
  have H1 := hid (And.intro r1 (And.intro r2 r3))
  have hpi : i < A.m.p.nd := by omega
  clear q1 q2 r1 r2 r3 h hset p1 p3
  have tk : ∀ W, Keeps (fun _ => False) w1 W → A.target i = (match A.m.p.L i with
    | [] => (⟨A.m, A.cur, put1 A.old i (-1)⟩, -1)
    | x :: l => (⟨{ A.m with p := A.m.p.set i l }, A.cur, put1 A.old i (-1)⟩, x)) → Calls Tryz.prog 161 #[.pointer (some ⟨plb, 0, none⟩), .int .i64 i] W fun e w' => ∃ zz rr : Int, e = .returned (.tuple #[.int .i64 zz, .int .i64 rr]) ∧ (rr = 0 ∧ zz = (A.target i).2 ∨ rr = 15 ∧ (A.target i).2 = -1) ∧ AreAt w' own ab mb pb db plb (A.target i).1 ∧ Step (fun t => t = 6 ∨ poolTag t) w own w' own ∧ Settled own w' := by
    intro W hW ht
    have hAW := H1.out.1.still hW
    have hsW := (H1.out.2.1.mono (B := fun t => t = 6 ∨ poolTag t) (fun t h => .inl h)).trans (Step.kept (hW.mono fun _ _ h => h.elim) H1.out.2.2).1
    have hstW := H1.out.2.2.keeps hW
    cases hl : A.m.p.L i with
    | nil =>
      rw [hl] at ht
      refine (ptake_none own plb A.m.p i W hAW.mir.pool hpi hl).mono ?_
      rintro e w' ⟨rfl, rfl⟩
      rw [ht]
      exact ⟨_, _, rfl, .inr ⟨rfl, rfl⟩, hAW, hsW, hstW⟩
    | cons x l =>
      rw [hl] at ht
      refine (ptake_one own plb A.m.p i x l W hAW.mir.pool (by omega) hpi hl).mono ?_
      rintro e w' ⟨rfl, hp, hk⟩
      rw [ht]
      obtain ⟨s1, s2⟩ := Step.kept (A := poolTag) hk hstW
      have hm := hAW.mir.turnp s1 hp (HOK.out.pool.tail hl) HOK.out.pg
      exact ⟨_, _, rfl, .inl ⟨rfl, rfl⟩, ⟨hAW.head.kept s1 (by unfold poolTag; omega), hm⟩, hsW.trans (s1.mono fun t h => .inr h), s2⟩
  have TK := hid tk
  clear tk
  by_cases k1 : A.old i = -1
  · have b1 : (A.old i != -1) = false := by simpa using k1
    have HT := hid (TK.out _ (Keeps.refl _ _) (by unfold AreaS.target; rw [if_neg (fun h => h.1 k1)]))
    clear k1
    go_enter Tryz.func116, Tryz.ntmps116
    go_wp2_with fail
    clear hw1
    refine Calls.mono (mpool_calls own mb pb db plb A.m _ H1.out.1.mir) ?_
    rintro e w2 ⟨rfl, rfl⟩
    go_wp2_with fail
    refine Calls.mono HT.out ?_
    rintro e w2 ⟨zz, rr, rfl, hc, hx⟩
    have HX := hid hx
    clear hx
    rcases hc with ⟨rfl, hz⟩ | ⟨rfl, hz⟩
    · have HZ := hid hz
      clear hz
      go_wp2_with fail
      go_ret
      exact ⟨ret_z HZ.out, HX.out⟩
    · have HZ := hid hz
      clear hz
      go_wp2_with fail
      go_ret
      exact ⟨ret_z HZ.out.symm, HX.out⟩
  · have b1 : (A.old i != -1) = true := by simpa using k1
    cases hb : A.m.isBad (A.old i) with
    | false =>
      have HT := hid (show A.target i = (⟨A.m, A.cur, put1 A.old i (-1)⟩, A.old i) by unfold AreaS.target; rw [if_pos ⟨k1, hb⟩])
      have HB := hid hb
      clear k1 hb
      go_enter Tryz.func116, Tryz.ntmps116
      go_wp2_with fail
      clear hw1
      refine Calls.mono (mbad_calls own mb pb db plb A.m _ _ H1.out.1.mir) ?_
      rintro e w2 ⟨rfl, hk⟩
      rw [HB.out]
      have HK := hid hk
      clear hk
      go_wp2_with fail
      go_ret
      rw [HT.out]
      exact ⟨rfl, H1.out.1.still HK.out, H1.out.2.1.mono (fun t h => .inl h) |>.trans (Step.kept (HK.out.mono fun _ _ h => h.elim) H1.out.2.2).1, H1.out.2.2.keeps HK.out⟩
    | true =>
      have HT : Hid (∀ W, Keeps (fun _ => False) w1 W → _) := hid fun W hW => TK.out W hW (by unfold AreaS.target; rw [if_neg (fun h => by rw [hb] at h; exact absurd h.2 (by decide))])
      have HB := hid hb
      clear k1 hb
      go_enter Tryz.func116, Tryz.ntmps116
      go_wp2_with fail
      clear hw1
      refine Calls.mono (mbad_calls own mb pb db plb A.m _ _ H1.out.1.mir) ?_
      rintro e w2 ⟨rfl, hk⟩
      rw [HB.out]
      have HK := hid hk
      have ca := (hk.cell (lt_of H1.out.1.head.heap) id).trans ca
      clear hk
      go_wp2_with fail
      refine Calls.mono (mpool_calls own mb pb db plb A.m _ (H1.out.1.still HK.out).mir) ?_
      rintro e w2 ⟨rfl, rfl⟩
      go_wp2_with fail
      refine Calls.mono (HT.out _ HK.out) ?_
      rintro e w2 ⟨zz, rr, rfl, hc, hx⟩
      have HX := hid hx
      clear hx
      rcases hc with ⟨rfl, hz⟩ | ⟨rfl, hz⟩
      · have HZ := hid hz
        clear hz
        go_wp2_with fail
        go_ret
        exact ⟨ret_z HZ.out, HX.out⟩
      · have HZ := hid hz
        clear hz
        go_wp2_with fail
        go_ret
        exact ⟨ret_z HZ.out.symm, HX.out⟩
end Go.Rv

/- Areas: an area is written. -/
namespace Go.Rv
open Go Go.RowKit Go.Proofs
attribute [local irreducible] wpQuiet tab0 tabV

theorem AreaS.target_g (A : AreaS) (i : Nat) : (A.target i).1.m.g = A.m.g ∧ (A.target i).1.cur = A.cur := by
  unfold AreaS.target
  split
  · exact ⟨rfl, rfl⟩
  · split <;> exact ⟨rfl, rfl⟩
/-- area i is written, if there is a zone for it. -/
def AreaS.write1 (A : AreaS) (i : Nat) (S : Int → List (List UInt8)) : AreaS × Bool :=
  if (A.target i).2 = -1 then ((A.target i).1, false)
  else (⟨{ (A.target i).1.m with d := ((A.target i).1.m.d.fillz (A.target i).2 (S (A.target i).2)).1 }, put1 A.cur i (A.target i).2, put1 (A.target i).1.old i (A.cur i)⟩, true)
/-- .. and nothing goes wrong. -/
def AreaS.good1 (A : AreaS) (i : Nat) (S : Int → List (List UInt8)) : Prop :=
  (A.target i).2 = -1 ∨ (A.m.g.holds (A.target i).2 0 = true ∧ ((A.target i).1.m.d.fillz (A.target i).2 (S (A.target i).2)).2 = 0)
def wrTag (t : Nat) : Prop := t = 6 ∨ drvTag t ∨ poolTag t
theorem wrTag_five : ¬ wrTag 5 ∧ ¬ wrTag 0 := by unfold wrTag drvTag devTag poolTag; omega

set_option maxHeartbeats 1000000 in
set_option maxRecDepth 100000 in
theorem awrite_none (own : Nat → Nat) (ab mb pb db plb : Nat) (A : AreaS) (i : Nat) (hi : i < 3) (s : SnapS) (w : World) (h : AreAt w own ab mb pb db plb A) (hset : Settled own w) (ht : (A.target i).2 = -1) :
    Calls Tryz.prog 66 #[.pointer (some ⟨ab, 0, none⟩), .int .i64 i, .agg (snapC s)] w fun e w' => e = .returned (.tuple #[.bool false, .int .i64 0]) ∧ AreAt w' own ab mb pb db plb (A.target i).1 ∧ Step wrTag w own w' own ∧ Settled own w' := by
  have hk0 : Keeps (fun _ => False) w (w.alloc (.cells (snapC s) 60)) := (by repeat (first | exact Keeps.refl _ _ | refine Keeps.alloc ?_ _ | refine Keeps.drew ?_ | refine Keeps.drewN ?_ _ | refine Keeps.trans ?_ (by assumption)))
  obtain ⟨w0, hw0⟩ : ∃ w0, w.alloc (.cells (snapC s) 60) = w0 := ⟨_, rfl⟩
  rw [hw0] at hk0
  have HT := hid (atarget_calls own ab mb pb db plb A i hi w0 (h.still hk0) (hset.keeps hk0))
  rw [ht] at HT
  have H := hid (And.intro hk0 hset)
  clear h hset ht hk0
  unfold snapC at hw0 ⊢
  go_enter Tryz.func66, Tryz.ntmps66
  go_wp2_with fail
  refine wp_loop_once ?_
  go_wp2_with fail
  clear hw0
  refine Calls.mono HT.out ?_
  rintro e w1 ⟨rfl, hx⟩
  have HX := hid hx
  clear hx
  go_wp2_with fail
  go_ret2
  refine ⟨rfl, HX.out.1, (Step.kept (A := wrTag) (H.out.1.mono fun _ _ h => h.elim) H.out.2).1.trans (HX.out.2.1.mono fun t h => ?_), HX.out.2.2⟩
  exact h.elim .inl fun h => .inr (.inr h)

set_option maxHeartbeats 1000000 in
set_option maxRecDepth 100000 in
theorem awrite_ok (own : Nat → Nat) (ab mb pb db plb : Nat) (A : AreaS) (i : Nat) (hi : i < 3) (t : Nat) (htg : ¬ wrTag t) (s : SnapS) (M : MapS) (w : World) (h : AreAt w own ab mb pb db plb A) (hset : Settled own w)
    (hm : MapAt w own t s.mb M) (hn : s.nums = true) (hr : (M.l.all fun e => decide (e.seq < s.next)) = true) (hf : ∀ e, e ∈ M.l → e.Fits) (hg : M.g = A.m.g) (ht : (A.target i).2 ≠ -1) (hgood : A.good1 i fun z => secsOf tab0 s M z M.g.parts.toNat) :
    Calls Tryz.prog 66 #[.pointer (some ⟨ab, 0, none⟩), .int .i64 i, .agg (snapC s)] w fun e w' => e = .returned (.tuple #[.bool true, .int .i64 0]) ∧ ∃ own', AreAt w' own' ab mb pb db plb (A.write1 i fun z => secsOf tab0 s M z M.g.parts.toNat).1 ∧ Step wrTag w own w' own' ∧ Settled own' w' := by
  have d0 : (0 : Int) ≤ i := by omega
  have hk0 : Keeps (fun _ => False) w (w.alloc (.cells (snapC s) 60)) := (by repeat (first | exact Keeps.refl _ _ | refine Keeps.alloc ?_ _ | refine Keeps.drew ?_ | refine Keeps.drewN ?_ _ | refine Keeps.trans ?_ (by assumption)))
  have hb0 := heap_new w (.cells (snapC s) 60)
  obtain ⟨w0, hw0⟩ : ∃ w0, w.alloc (.cells (snapC s) 60) = w0 := ⟨_, rfl⟩
  rw [hw0] at hk0 hb0
  obtain ⟨hh, hfz⟩ := hgood.resolve_left ht
  have hW1 : (A.write1 i fun z => secsOf tab0 s M z M.g.parts.toNat).1 = ⟨{ (A.target i).1.m with d := ((A.target i).1.m.d.fillz (A.target i).2 (secsOf tab0 s M (A.target i).2 M.g.parts.toNat)).1 }, put1 A.cur i (A.target i).2, put1 (A.target i).1.old i (A.cur i)⟩ := by
    unfold AreaS.write1; rw [if_neg ht]
  rw [hW1]
  have htc := atarget_calls own ab mb pb db plb A i hi w0 (h.still hk0) (hset.keeps hk0)
  obtain ⟨hg1, hcur⟩ := A.target_g i
  obtain ⟨A1, z, hAz⟩ : ∃ A1 z, A.target i = (A1, z) := ⟨_, _, rfl⟩
  rw [hAz] at htc ht hh hfz hg1 hcur ⊢
  simp only [] at htc ht hh hfz hg1 hcur ⊢
  obtain ⟨D2, hD2⟩ : ∃ D2, A1.m.d.fillz z (secsOf tab0 s M z M.g.parts.toNat) = (D2, 0) := ⟨_, by rw [← hfz]⟩
  rw [hD2]
  simp only []
  have HT := hid htc
  have H := hid (And.intro hk0 (And.intro hset (And.intro hb0 (hm.still hk0))))
  have HN := hid (And.intro hn (And.intro hr (And.intro hf (show M.g.holds z 0 = true by rw [hg]; exact hh))))
  have HD := hid hD2
  have b1 : (z == -1) = false := by simpa using ht
  have HC := hid hcur
  clear h hset ht hk0 hb0 hh hfz hgood hW1 htc hn hr hf hm hD2 hg1 hcur hAz hg
  unfold snapC at hw0 ⊢
  go_enter Tryz.func66, Tryz.ntmps66
  go_wp2_with fail
  refine wp_loop_once ?_
  go_wp2_with fail
  clear hw0
  refine Calls.mono HT.out ?_
  rintro e w1 ⟨rfl, hA1, hs1, hset1⟩
  have hb1 := hs1.heap H.out.2.2.1 (by rw [H.out.2.1 _ (Nat.le_refl _)]; unfold poolTag; omega)
  have hm1 := H.out.2.2.2.kept hs1 (fun h => htg (h.elim .inl fun h => .inr (.inr h)))
  obtain ⟨c0, c1, c2, c3⟩ := snap_cells hb1
  have H1 := hid (And.intro hA1 (And.intro ((Step.kept (A := wrTag) (H.out.1.mono fun _ _ h => h.elim) H.out.2.1).1.trans (hs1.mono fun t h => h.elim .inl fun h => .inr (.inr h))) (And.intro hset1 hm1)))
  clear hA1 hs1 hset1 hb1 hm1
  go_wp2_with fail
  refine Calls.mono (afill_calls own ab mb pb db plb A1 t s M z _ H1.out.1 H1.out.2.2.1 H1.out.2.2.2 HN.out.1 HN.out.2.1 HN.out.2.2.1 HN.out.2.2.2) ?_
  rw [HD.out]
  rintro e w2 ⟨rfl, own2, hA2, hs2, hset2⟩
  obtain ⟨p1, p2, p3, p4⟩ := hA2.head.at hi
  have H2 := hid (And.intro hA2 (And.intro (H1.out.2.1.trans (hs2.mono fun t h => .inr (.inl h))) hset2))
  clear hA2 hs2 hset2 c0 c1 c2 c3
  go_wp2_with fail
  go_region
  all_goals
    go_wp2_with fail
    go_ret2
    have hk : Keeps (fun _ => False) w2 w2.drew := (by repeat (first | exact Keeps.refl _ _ | refine Keeps.alloc ?_ _ | refine Keeps.drew ?_ | refine Keeps.drewN ?_ _ | refine Keeps.trans ?_ (by assumption)))
    obtain ⟨q1, q2⟩ := (H2.out.1.still hk).head.set hi z (A1.cur i)
    obtain ⟨r1, r2, r3⟩ := (H2.out.1.still hk).turn (H2.out.2.2.keeps hk) q1 q2
    rw [← HC.out]
    exact ⟨rfl, own2, r1, H2.out.2.1.trans ((Step.kept (A := wrTag) (hk.mono fun _ _ h => h.elim) H2.out.2.2).1.trans (r2.mono fun t h => .inl h)), r3⟩
end Go.Rv

/- Areas: a snapshot is written. -/
namespace Go.Rv
open Go Go.RowKit Go.Proofs
attribute [local irreducible] wpQuiet tab0 tabV

theorem AreaS.write1_g (A : AreaS) (i : Nat) (S : Int → List (List UInt8)) : (A.write1 i S).1.m.g = A.m.g := by
  unfold AreaS.write1
  split <;> exact (A.target_g i).1
/-- the areas behind d of them were written, and how many were. -/
def AreaS.seq (A : AreaS) (S : Int → List (List UInt8)) : Nat → AreaS × Nat
  | 0 => (A, 0)
  | d + 1 => (((AreaS.seq A S d).1.write1 d S).1, (AreaS.seq A S d).2 + if ((AreaS.seq A S d).1.write1 d S).2 then 1 else 0)
theorem AreaS.seq_g (A : AreaS) (S : Int → List (List UInt8)) : ∀ d, (A.seq S d).1.m.g = A.m.g
  | 0 => rfl
  | d + 1 => by rw [AreaS.seq, AreaS.write1_g, AreaS.seq_g A S d]
theorem AreaS.seq_le (A : AreaS) (S : Int → List (List UInt8)) : ∀ d, (A.seq S d).2 ≤ d
  | 0 => Nat.le_refl _
  | d + 1 => by
    have := AreaS.seq_le A S d
    rw [AreaS.seq]
    simp only []
    split <;> omega

set_option maxHeartbeats 1000000 in
set_option maxRecDepth 100000 in
theorem aWrite_calls (own : Nat → Nat) (ab mb pb db plb : Nat) (A : AreaS) (t : Nat) (htg : ¬ wrTag t) (s : SnapS) (M : MapS) (w : World) (h : AreAt w own ab mb pb db plb A) (hset : Settled own w)
    (hm : MapAt w own t s.mb M) (hn : s.nums = true) (hr : (M.l.all fun e => decide (e.seq < s.next)) = true) (hf : ∀ e, e ∈ M.l → e.Fits) (hg : M.g = A.m.g) (S : Int → List (List UInt8)) (hS : S = fun z => secsOf tab0 s M z M.g.parts.toNat)
    (hgood : ∀ d, d < 3 → (A.seq S d).1.good1 d S) (hfl : (A.seq S 3).1.m.d.flush.2 = 0) :
    Calls Tryz.prog 18 #[.pointer (some ⟨ab, 0, none⟩), .agg (snapC s)] w fun e w' => e = .returned (.tuple #[.int .i64 ((A.seq S 3).2 : Nat), .int .i64 (if (A.seq S 3).2 < 2 then 40 else 0)]) ∧ ∃ own', AreAt w' own' ab mb pb db plb ⟨{ (A.seq S 3).1.m with d := (A.seq S 3).1.m.d.flush.1 }, (A.seq S 3).1.cur, (A.seq S 3).1.old⟩ ∧ Step wrTag w own w' own' ∧ Settled own' w' := by
  have hk0 : Keeps (fun _ => False) w (w.alloc (.cells (snapC s) 60)) := (by repeat (first | exact Keeps.refl _ _ | refine Keeps.alloc ?_ _ | refine Keeps.drew ?_ | refine Keeps.drewN ?_ _ | refine Keeps.trans ?_ (by assumption)))
  have hb0 := heap_new w (.cells (snapC s) 60)
  obtain ⟨w0, hw0⟩ : ∃ w0, w.alloc (.cells (snapC s) 60) = w0 := ⟨_, rfl⟩
  rw [hw0] at hk0 hb0
  have H := hid (And.intro (h.still hk0) (And.intro (hset.keeps hk0) (And.intro hb0 (And.intro (hm.still hk0) (And.intro hk0 hset)))))
  have HN := hid (And.intro hn (And.intro hr (And.intro hf (And.intro hg (And.intro hgood hfl)))))
  have HF : Hid (∀ W, Keeps (fun _ => False) w0 W → W.cell? ⟨ab, 0, none⟩ = some (.pointer (some ⟨mb, 0, none⟩)) ∧ W.cell? ⟨w.heap.size, 0, none⟩ = some (.int .i64 s.gen) ∧ W.cell? ⟨w.heap.size, 1, none⟩ = some (.int .i64 s.epoch) ∧ W.cell? ⟨w.heap.size, 2, none⟩ = some (.int .i64 s.next) ∧ W.cell? ⟨w.heap.size, 3, none⟩ = some (.pointer (some ⟨s.mb, 0, none⟩))) := hid fun W hW =>
    ⟨(H.out.1.still hW).head.cells.1, snap_cells (hW.heap H.out.2.2.1 id)⟩
  have HR : Hid (∀ W, Keeps (fun _ => False) w0 W → Calls Tryz.prog 64 #[.agg #[.int .i64 s.gen, .int .i64 s.epoch, .int .i64 s.next, .pointer (some ⟨s.mb, 0, none⟩)]] W fun e w' => e = .returned (.bool true) ∧ Keeps (fun _ => False) W w') := hid fun W hW => by
    have := snapright_go own t s M W (H.out.2.2.2.1.still hW) HN.out.1
    rwa [HN.out.2.1] at this
  have HG1 : Hid (∀ W, Keeps (fun _ => False) w0 W → Calls Tryz.prog 65 #[.pointer (some ⟨s.mb, 0, none⟩)] W fun e w' => e = .returned (geomV A.m.g) ∧ Keeps (fun _ => False) W w') := hid fun W hW => by
    have := mapgeom_calls own t s.mb M W (H.out.2.2.2.1.still hW)
    rwa [HN.out.2.2.2.1] at this
  have HG2 : Hid (∀ W, Keeps (fun _ => False) w0 W → Calls Tryz.prog 30 #[.pointer (some ⟨mb, 0, none⟩)] W fun e w' => e = .returned (geomV A.m.g) ∧ Keeps (fun _ => False) W w') := hid fun W hW =>
    mgeom_calls own mb pb db plb A.m W (H.out.1.still hW).mir
  have HSS := hid hS
  clear h hset hm hn hr hf hg hgood hfl hk0 hb0 hS
  unfold geomV at HG1 HG2
  unfold snapC at hw0 ⊢
  go_enter Tryz.func18, Tryz.ntmps18
  go_wp2_with fail
  clear hw0
  refine wp_region_still (by kernel_rfl) (by kernel_rfl) ?_
  repeat (first | (refine still_pass ?_ ?_; (focus (first | (go_simp; done) | rfl)); try simp only [Act.put, List.setIfInBounds_toArray, List.set_cons_succ, List.set_cons_zero]) | (apply still_step; (focus (go_simp; done)); (focus (intro W hW; unfold Oper.quietAt; (obtain ⟨ca, c0, c1, c2, c3⟩ := HF.out W hW); go_simp; first | done | with_reducible rfl | (first | (go_at_call 64; exact still_call hW (HR.out W hW)) | (go_at_call 65; exact still_call hW (HG1.out W hW)) | (go_at_call 30; exact still_call hW (HG2.out W hW))) | exact ⟨rfl, rfl⟩)); try simp only [Act.put, List.setIfInBounds_toArray, List.set_cons_succ, List.set_cons_zero]))
  refine wpQuiet_nil ?_
  intro W hW
  have HW := hid (H.out.2.2.2.2.1.trans hW)
  have HW0 := hid hW
  clear hW
  go_wp2_with fail
  go_loopg [6, 25] 3 (fun (gk : Nat) (n x : Value) (wr : World) => ∃ (d : Nat) (ownd : Nat → Nat), d + gk = 3 ∧ x = .int .i64 d ∧ n = .int .i64 ((A.seq S d).2 : Nat) ∧ AreAt wr ownd ab mb pb db plb (A.seq S d).1 ∧ Step wrTag w own wr ownd ∧ Settled ownd wr ∧ MapAt wr ownd t s.mb M ∧ wr.heap[w.heap.size]? = some (.cells (snapC s) 60 (0, 0)) ∧ ownd w.heap.size = 0)
  case atStart =>
    refine ⟨0, own, by omega, rfl, rfl, H.out.1.still HW0.out, (Step.kept (A := wrTag) (HW.out.mono fun _ _ h => h.elim) H.out.2.2.2.2.2).1, H.out.2.1.keeps HW0.out, H.out.2.2.2.1.still HW0.out, HW0.out.heap H.out.2.2.1 id, H.out.2.2.2.2.2 _ (Nat.le_refl _)⟩
  case round =>
    obtain ⟨d, ownd, hd, rfl, rfl, hA, hst, hset, hmp, hbx, own0⟩ := hrel
    obtain ⟨ca, -⟩ := hA.head.cells
    have hle := A.seq_le S d
    have HX := hid (And.intro hA (And.intro hst (And.intro hset (And.intro hmp hbx))))
    by_cases c : d < 3
    · obtain ⟨c0, c1, c2, c3⟩ := snap_cells hbx
      have dd : decide ((d : Int) < 3) = true := by simp; omega
      have hgd := HN.out.2.2.2.2.1 d c
      have hq : A.seq S (d + 1) = (((A.seq S d).1.write1 d S).1, (A.seq S d).2 + if ((A.seq S d).1.write1 d S).2 then 1 else 0) := rfl
      have HQ := hid hq
      have hgg : M.g = (A.seq S d).1.m.g := by rw [A.seq_g S d]; exact HN.out.2.2.2.1
      have OW := hid own0
      clear hA hst hset hmp hbx hq own0
      by_cases kt : ((A.seq S d).1.target d).2 = -1
      · have hw1 : (A.seq S d).1.write1 d S = (((A.seq S d).1.target d).1, false) := by unfold AreaS.write1; rw [if_pos kt]
        rw [hw1] at HQ
        have HWN := hid (awrite_none ownd ab mb pb db plb (A.seq S d).1 d c s wr HX.out.1 HX.out.2.2.1 kt)
        clear hw1 kt hgd hgg
        simp only [snapC] at HWN
        go_wp2_with fail
        refine Calls.mono HWN.out ?_
        rintro e w5 ⟨rfl, hA5, hs5, hset5⟩
        have HY := hid (And.intro hA5 (And.intro hs5 hset5))
        clear hA5 hs5 hset5
        go_wp2_with fail
        go_roundg (gk - 1)
        case measure => omega
        case rel =>
          refine ⟨d + 1, ownd, by omega, by go_num, by rw [HQ.out]; simp, by rw [HQ.out]; exact HY.out.1, HX.out.2.1.trans HY.out.2.1, HY.out.2.2, HX.out.2.2.2.1.kept HY.out.2.1 htg, HY.out.2.1.heap HX.out.2.2.2.2 (by rw [OW.out]; exact wrTag_five.2), (HY.out.2.1.agree _ (lt_of HX.out.2.2.2.2)).trans OW.out⟩
      · have hw1 : ((A.seq S d).1.write1 d S).2 = true := by unfold AreaS.write1; rw [if_neg kt]
        rw [hw1] at HQ
        have hgd' := hgd
        have hwk := awrite_ok ownd ab mb pb db plb (A.seq S d).1 d c t htg s M wr HX.out.1 HX.out.2.2.1 HX.out.2.2.2.1 HN.out.1 HN.out.2.1 HN.out.2.2.1 hgg kt (by rw [← HSS.out]; exact hgd')
        rw [← HSS.out] at hwk
        have HWN := hid hwk
        clear hw1 kt hgd hgg hgd' hwk
        simp only [snapC] at HWN
        go_wp2_with fail
        refine Calls.mono HWN.out ?_
        rintro e w5 ⟨rfl, own5, hA5, hs5, hset5⟩
        have HY := hid (And.intro hA5 (And.intro hs5 hset5))
        clear hA5 hs5 hset5
        go_wp2_with fail
        go_roundg (gk - 1)
        case measure => omega
        case rel =>
          refine ⟨d + 1, own5, by omega, by go_num, by rw [HQ.out]; simp, by rw [HQ.out]; exact HY.out.1, HX.out.2.1.trans HY.out.2.1, HY.out.2.2, HX.out.2.2.2.1.kept HY.out.2.1 htg, HY.out.2.1.heap HX.out.2.2.2.2 (by rw [OW.out]; exact wrTag_five.2), (HY.out.2.1.agree _ (lt_of HX.out.2.2.2.2)).trans OW.out⟩
    · have hd3 : d = 3 := by omega
      subst hd3
      clear hA hst hset hmp hbx own0
      have hfl := HN.out.2.2.2.2.2
      have hpf := pflush_calls ownd pb db (A.seq S 3).1.m.d wr HX.out.1.mir.drive HX.out.2.2.1
      rw [hfl] at hpf
      have HPF := hid hpf
      clear hfl hpf
      go_wp2_with fail
      refine Calls.mono (mdrive_calls ownd mb pb db plb _ _ HX.out.1.mir) ?_
      rintro e w5 ⟨rfl, rfl⟩
      go_wp2_with fail
      refine Calls.mono HPF.out ?_
      rintro e w5 ⟨rfl, own5, hd5, hs5, hset5⟩
      have HY := hid (And.intro hd5 (And.intro hs5 hset5))
      clear hd5 hs5 hset5
      have hA5 := HX.out.1.turnd HY.out.2.1 HY.out.1 ((A.seq S 3).1.m.d.like_flush)
      have hs5 := HX.out.2.1.trans (HY.out.2.1.mono fun t h => .inr (.inl h))
      have HZ := hid (And.intro hA5 (And.intro hs5 HY.out.2.2))
      clear hA5 hs5
      by_cases k2 : (A.seq S 3).2 < 2
      · have b2 : decide (((A.seq S 3).2 : Int) < 2) = true := by simp; omega
        have K2 := hid k2
        clear k2
        go_wp2_with fail
        go_ret2
        exact ⟨rfl, own5, HZ.out⟩
      · have b2 : decide (((A.seq S 3).2 : Int) < 2) = false := by simp; omega
        have K2 := hid k2
        clear k2
        go_wp2_with fail
        go_ret2
        exact ⟨rfl, own5, HZ.out⟩
end Go.Rv

/- A copy is written where nothing goes wrong: plain. -/
namespace Go.Rv
open Go Go.RowKit Go.Proofs

/-- a zone that may be written. -/
structure DriveS.Calm (D : DriveS) : Prop where
  coming : D.coming = []
  down : D.d.down = false
  opn : 1 ≤ D.d.opn

theorem DevS.begin_up {D : DevS} (hd : D.down = false) {z : Nat} (hz : z < D.nz) : D.begin z = ({ D with n := wrap64 (D.n + 1) }, 0) := by
  unfold DevS.begin
  rw [hd, if_neg (by decide), if_pos (by simp [DevS.has, hz]), ← hd]
theorem DevS.openTo_zero {D : DevS} : ∀ k, (∀ j, j < k → (D.z j).state ≠ 1) → D.openTo k = 0
  | 0, _ => rfl
  | k + 1, h => by
    rw [DevS.openTo_succ, DevS.openTo_zero k (fun j hj => h j (by omega)), if_neg (h k (by omega))]

theorem DriveS.append_calm {D : DriveS} (h : D.Calm) {z : Nat} (hz : z < D.d.nz) (s : List UInt8) (hst : (D.d.z z).state = 0 ∨ (D.d.z z).state = 1) (hop : (D.d.z z).state = 0 → ∀ j, j < D.d.nz → (D.d.z j).state ≠ 1) :
    D.append z s = ({ D with d := ({ D.d with n := wrap64 (D.d.n + 1) } : DevS).setz z { D.d.z z with l := (D.d.z z).l ++ [s], state := if ((D.d.z z).l.length : Int) + 1 = D.d.size then 2 else 1 } }, ((D.d.z z).l.length : Int), 0) := by
  unfold DriveS.append
  rw [DriveS.begin_calm h.coming]
  unfold DevS.append
  rw [DevS.begin_up h.down hz]
  simp only [Int.toNat_natCast]
  rw [if_neg (by simp)]
  have ho : ¬ ((D.d.z z).state = 0 ∧ D.d.opn ≤ D.d.openTo D.d.nz) := by
    rintro ⟨h0, h1⟩
    rw [DevS.openTo_zero _ (hop h0)] at h1
    have := h.opn
    simp at h1; omega
  rw [if_neg ho]
  unfold ZoneS.append
  rw [if_neg (by omega), if_neg (by omega), if_neg (by omega)]

theorem DriveS.apps_ok {z : Nat} : ∀ (xs : List (List UInt8)) (i : Nat) (D : DriveS), D.Calm → z < D.d.nz → (D.d.z z).l.length = i → (D.d.z z).state = (if (i : Int) = D.d.size then 2 else if i = 0 then 0 else 1) → (∀ j, j < D.d.nz → j ≠ z → (D.d.z j).state ≠ 1) → ((i + xs.length : Nat) : Int) ≤ D.d.size →
    ∃ D', DriveS.apps z xs i D = (D', 0) ∧ D'.Calm ∧ D.like D' ∧ D'.happened = D.happened ∧ (∀ j, j ≠ z → D'.d.z j = D.d.z j) ∧ (D'.d.z z).l = (D.d.z z).l ++ xs ∧ (D'.d.z z).state = (if ((i + xs.length : Nat) : Int) = D.d.size then 2 else if i + xs.length = 0 then 0 else 1) ∧ (D'.d.z z).safe = (D.d.z z).safe
  | [], i, D, hc, hz, hl, hs, ho, hle => ⟨D, rfl, hc, .refl D, rfl, fun _ _ => rfl, by simp, by simpa using hs, rfl⟩
  | x :: xs, i, D, hc, hz, hl, hs, ho, hle => by
    simp only [List.length_cons] at hle ⊢
    have hi : ¬ (i : Int) = D.d.size := by omega
    rw [if_neg hi] at hs
    have hst : (D.d.z z).state = 0 ∨ (D.d.z z).state = 1 := by split at hs <;> omega
    have hap := DriveS.append_calm hc hz x hst (fun h0 j hj => by
      by_cases e : j = z
      · subst e; omega
      · exact ho j hj e)
    rw [hl] at hap
    obtain ⟨D1, hD1⟩ : ∃ D1, ({ D with d := ({ D.d with n := wrap64 (D.d.n + 1) } : DevS).setz z { D.d.z z with l := (D.d.z z).l ++ [x], state := if (i : Int) + 1 = D.d.size then 2 else 1 } } : DriveS) = D1 := ⟨_, rfl⟩
    rw [hD1] at hap
    have g1 : D1.d.z z = { D.d.z z with l := (D.d.z z).l ++ [x], state := if (i : Int) + 1 = D.d.size then 2 else 1 } := by rw [← hD1]; simp [DevS.setz]
    have g2 : ∀ j, j ≠ z → D1.d.z j = D.d.z j := fun j hj => by rw [← hD1]; simp [DevS.setz, hj]
    have g3 : D1.d.nz = D.d.nz ∧ D1.d.size = D.d.size ∧ D1.d.opn = D.d.opn ∧ D1.d.down = D.d.down ∧ D1.coming = D.coming ∧ D1.happened = D.happened := by rw [← hD1]; exact ⟨rfl, rfl, rfl, rfl, rfl, rfl⟩
    obtain ⟨D', r1, r2, r3, r4, r5, r6, r7, r8⟩ := DriveS.apps_ok xs (i + 1) D1 ⟨by rw [g3.2.2.2.2.1]; exact hc.coming, by rw [g3.2.2.2.1]; exact hc.down, by rw [g3.2.2.1]; exact hc.opn⟩ (by rw [g3.1]; exact hz) (by rw [g1]; simp [hl]) (by rw [g1, g3.2.1]; simp) (fun j hj hne => by rw [g2 j hne]; exact ho j (by rw [← g3.1]; exact hj) hne) (by rw [g3.2.1]; omega)
    refine ⟨D', ?_, r2, ⟨r3.1.trans g3.1, r3.2.1.trans g3.2.1, r3.2.2.trans g3.2.2.1⟩, r4.trans g3.2.2.2.2.2, fun j hj => (r5 j hj).trans (g2 j hj), by rw [r6, g1]; simp, ?_, by rw [r8, g1]⟩
    · rw [DriveS.apps_step hap, if_neg (by simp), if_neg (by simp), r1]
    · rw [r7, g3.2.1, show i + 1 + xs.length = i + (xs.length + 1) by omega]

theorem DevS.state_in {D : DevS} {z : Nat} (hz : z < D.nz) : D.state z = (D.z z).state := by
  unfold DevS.state; rw [if_pos (by simp [DevS.has, hz])]; simp

theorem DriveS.finish_calm {D : DriveS} (h : D.Calm) {z : Nat} (hz : z < D.d.nz) (hst : (D.d.z z).state < 3) :
    D.finish z = ({ D with d := ({ D.d with n := wrap64 (D.d.n + 1) } : DevS).setz z { D.d.z z with state := 2, fin := true } }, 0) := by
  unfold DriveS.finish
  rw [DriveS.begin_calm h.coming]
  unfold DevS.finish
  rw [DevS.begin_up h.down hz]
  simp only [Int.toNat_natCast]
  rw [if_neg (by simp)]
  unfold ZoneS.finish
  rw [if_neg (by omega), if_neg (by omega)]
theorem DriveS.reset_calm {D : DriveS} (h : D.Calm) {z : Nat} (hz : z < D.d.nz) (hst : (D.d.z z).state < 3) :
    D.reset z = ({ D with d := ({ D.d with n := wrap64 (D.d.n + 1) } : DevS).setz z ⟨[], 0, 0, false⟩ }, 0) := by
  unfold DriveS.reset
  rw [DriveS.begin_calm h.coming]
  unfold DevS.reset
  rw [DevS.begin_up h.down hz]
  simp only [Int.toNat_natCast]
  rw [if_neg (by simp)]
  unfold ZoneS.reset
  rw [if_neg (by omega), if_neg (by omega)]

/-- a zone is filled where nothing goes wrong. -/
theorem DriveS.fill_ok {D : DriveS} (h : D.Calm) {z : Nat} (hz : z < D.d.nz) (hst : (D.d.z z).state < 3) (hemp : (D.d.z z).state = 0 → (D.d.z z).l = []) (ho : ∀ j, j < D.d.nz → j ≠ z → (D.d.z j).state ≠ 1) (L : List (List UInt8)) (h1 : 1 ≤ L.length) (h2 : (L.length : Int) ≤ D.d.size) :
    ∃ D', D.fillz z L = (D', 0) ∧ D'.Calm ∧ D.like D' ∧ D'.happened = D.happened ∧ (∀ j, j ≠ z → D'.d.z j = D.d.z j) ∧ (D'.d.z z).l = L ∧ (D'.d.z z).state = 2 := by
  obtain ⟨D1, hD1, c1, l1, hh1, o1, zl, zs⟩ : ∃ D1, D.cleanz z = (D1, 0) ∧ D1.Calm ∧ D.like D1 ∧ D1.happened = D.happened ∧ (∀ j, j ≠ z → D1.d.z j = D.d.z j) ∧ (D1.d.z z).l = [] ∧ (D1.d.z z).state = 0 := by
    unfold DriveS.cleanz
    rw [DevS.state_in hz]
    by_cases k : (D.d.z z).state = 0
    · rw [if_pos k]; exact ⟨D, rfl, h, .refl D, rfl, fun _ _ => rfl, hemp k, k⟩
    · rw [if_neg k, DriveS.reset_calm h hz hst]
      exact ⟨_, rfl, ⟨h.coming, h.down, h.opn⟩, ⟨rfl, rfl, rfl⟩, rfl, fun j hj => by simp [DevS.setz, hj], by simp [DevS.setz], by simp [DevS.setz]⟩
  have hsz : ¬ ((0 : Nat) : Int) = D1.d.size := by rw [l1.2.1]; omega
  obtain ⟨D2, r1, r2, r3, r4, r5, r6, r7, r8⟩ := DriveS.apps_ok L 0 D1 c1 (by rw [l1.1]; exact hz) (by rw [zl]; rfl) (by rw [zs, if_neg hsz]; rfl) (fun j hj hne => by rw [o1 j hne]; exact ho j (by rw [← l1.1]; exact hj) hne) (by rw [l1.2.1]; simpa using h2)
  rw [DriveS.fillz_eq hD1 r1, if_neg (by simp), if_neg (by simp)]
  rw [DevS.state_in (by rw [r3.1, l1.1]; exact hz)]
  rw [zl, List.nil_append] at r6
  by_cases k : (D2.d.z z).state = 2
  · rw [if_pos k]
    exact ⟨D2, rfl, r2, l1.trans r3, r4.trans hh1, fun j hj => (r5 j hj).trans (o1 j hj), r6, k⟩
  · rw [if_neg k]
    have hlt : (D2.d.z z).state < 3 := by rw [r7]; split <;> (try split) <;> omega
    rw [DriveS.finish_calm r2 (by rw [r3.1, l1.1]; exact hz) hlt]
    refine ⟨_, rfl, ⟨r2.coming, r2.down, r2.opn⟩, (l1.trans r3).trans ⟨rfl, rfl, rfl⟩, r4.trans hh1, fun j hj => ?_, ?_, ?_⟩
    · simp only [DevS.setz, if_neg hj]; exact (r5 j hj).trans (o1 j hj)
    · simp [DevS.setz, r6]
    · simp [DevS.setz]
theorem DriveS.flush_calm {D : DriveS} (h : D.Calm) : D.flush.2 = 0 ∧ D.flush.1.Calm ∧ (∀ j, (D.flush.1.d.z j).state = (D.d.z j).state ∧ (D.flush.1.d.z j).l = (D.d.z j).l) := by
  unfold DriveS.flush
  rw [DriveS.due_calm h.coming]
  unfold DevS.flush
  rw [h.down, if_neg (by decide)]
  refine ⟨rfl, ⟨h.coming, h.down, h.opn⟩, fun j => ?_⟩
  simp only [DevS.flushTo]
  split <;> exact ⟨rfl, rfl⟩
end Go.Rv
