/- Areas take turns: the rounds. -/
import Derived.Test.YtoijkpgcaokhlaaGreatPart19
set_option linter.unusedVariables false
set_option linter.unusedSimpArgs false
namespace Go.Rv
open Go Go.RowKit Go.Proofs
attribute [local irreducible] wpQuiet tab0 tabV
attribute [local go_sem] cellsAt_new0 cellsAt_lt cellsAt_drew size_bytesV

set_option maxHeartbeats 500000 in
set_option maxRecDepth 100000 in
theorem turns_in (g : GeomS) (n : Nat) (w : World) (hg : g.right = true) (ha : g.all ≤ 64) (hn : n ≤ 12) : Calls Tryz.prog 3 #[geomV g, .int .i64 n] w fun e w' => e = .returned (.bool true) ∧ Keeps (fun _ => False) w w' := by
  have hst := fun X => started_yes g hg ha (fun _ => 0) X (fun _ _ => rfl)
  have hmn := fun own X h => mapnew_good own 5 g hg X h
  have HG := hid hg
  have hsm := g.right_small hg
  have hz := hsm.z
  simp only [geomV] at hst hmn ⊢
  have HMN := hid hmn
  clear hmn hg ha hsm
  go_enter Tryz.func3, Tryz.ntmps3
  go_wp2_with fail
  refine Calls.mono (anchor15_calls _) ?_
  rintro e w1 ⟨rfl, hk1⟩
  have hb := hk1.heap (heap_new w _) id
  obtain ⟨b0, b1, b2, b3, b4, b5⟩ := geom_six (g := g) hb
  have hk : Keeps (fun _ => False) w w1 := Keeps.trans (by repeat (first | exact Keeps.refl _ _ | refine Keeps.alloc ?_ _ | refine Keeps.drew ?_ | refine Keeps.drewN ?_ _ | refine Keeps.trans ?_ (by assumption))) hk1
  have H1 := hid (And.intro hk hb)
  clear hk hk1 hb
  go_wp2_with fail
  refine Calls.mono (hst _) ?_
  rintro e w2 ⟨py, mb, ab, pb, db, plb, own2, rfl, hpl, har, hs, hset⟩
  have o0 : ∀ k, ¬ anyTag ((fun _ => 0 : Nat → Nat) k) := fun k h => h rfl
  have hs2 : Step anyTag w (fun _ => 0) w2 own2 := (Step.kept (A := anyTag) (H1.out.1.mono fun _ _ h => h.elim) (fun _ _ => rfl)).1.trans hs
  have hb2 := hs.heap H1.out.2 (o0 w.heap.size)
  have ho2 := hs.agree w.heap.size (lt_of H1.out.2)
  rw [← areaD_zero] at har
  have H2 := hid (And.intro hpl (And.intro har (And.intro hs2 (And.intro hset (And.intro hb2 ho2)))))
  clear hpl har hs hs2 hset hb2 ho2 hst o0 b0 b1 b2 b3 b4 b5
  have d1 : decide ((n : Int) < 0) = false := by simp
  have d2 : decide (12 < (n : Int)) = false := by simp; omega
  go_wp2_with fail
  clear d1 d2
  go_loopg [35] 3 (fun (gk : Nat) (x : Value) (wr : World) => ∃ d : Nat, d + gk = 3 ∧ x = .int .i64 d ∧ AreAt wr own2 ab mb pb db plb (areaD g d) ∧ PlayAt wr own2 py mb ab g ∧ Step anyTag w (fun _ => 0) wr own2 ∧ Settled own2 wr ∧ wr.heap[w.heap.size]? = some (.cells #[.int .i64 g.domains, .int .i64 g.zones, .int .i64 g.size, .int .i64 g.blocks, .int .i64 g.spare, .int .i64 g.opn] 23 (0, 0)))
  case atStart => exact ⟨0, by omega, rfl, H2.out.2.1, H2.out.1, H2.out.2.2.1, H2.out.2.2.2.1, H2.out.2.2.2.2.1⟩
  case round =>
    obtain ⟨d, hd, rfl, hA, hpl, hs, hset, hb⟩ := hrel
    obtain ⟨c6, c7⟩ := hpl.cells
    obtain ⟨b0, b1, b2, b3, b4, b5⟩ := geom_six (g := g) hb
    by_cases c : d < 3
    · have dd : decide ((d : Int) < 3) = true := by simp; omega
      have zf := zab_facts HG.out c
      have z3 := zf.2.2.1
      have z4 := zf.2.2.2.1
      have hall := g.all_bd (g.right_small HG.out)
      have w1' : IntKind.i64.wrap ((d : Int) * g.zones) = za g d := by rw [← z3]; exact IntWalk.i64_in _ (by omega)
      have w2' : IntKind.i64.wrap ((za g d : Int) + 1) = zb g d := by rw [show (za g d : Int) + 1 = zb g d by omega]; exact IntWalk.i64_in _ (by omega)
      have hse := fun X (hX : Keeps (fun _ => False) wr X) => aset_ok own2 ab mb pb db plb (areaD g d) d c (-1) (za g d) X (hA.still hX) (hset.keeps hX) (by simp [AreaS.fits]) (by simp [AreaS.fits, show (areaD g d).m.g = g from rfl, zf.2.2.2.2.1]) (.inr rfl)
      have HX := hid (And.intro hA (And.intro hpl (And.intro hs (And.intro hset hb))))
      have HSE := hid hse
      clear hA hpl hs hset hb hse zf z3 z4 hall
      go_wp2_with fail
      go_region_held3 (fun X => X.cell? ⟨w.heap.size, 1, none⟩ = some (.int .i64 g.zones) ∧ X.cell? ⟨py, 7, none⟩ = some (.pointer (some ⟨ab, 0, none⟩)))
        (repeat (first | assumption | exact ⟨b1, c7⟩))
        ((go_at_call 13; refine Calls.mono (HSE.out _ (by first | exact Keeps.refl _ _ | exact (Keeps.refl _ _).drew)) ?_; rintro e w5 ⟨rfl, hA5, hs5, hset5⟩; have hp5 := (HX.out.2.1.still ((Keeps.refl _ _).drew)).kept hs5 (by omega); have hb5 := hs5.heap (HX.out.2.2.2.2) (by rw [H2.out.2.2.2.2.2]; omega); have e17 := And.intro (geom_six (g := g) hb5).2.1 hp5.cells.2))
      have c6 := hp5.cells.1
      have b1 := (geom_six (g := g) hb5).2.1
      have hs5' := (HX.out.2.2.1.trans (Step.kept (A := anyTag) (w' := wr.drew) (by repeat (first | exact Keeps.refl _ _ | refine Keeps.alloc ?_ _ | refine Keeps.drew ?_ | refine Keeps.drewN ?_ _ | refine Keeps.trans ?_ (by assumption))) HX.out.2.2.2.1).1).trans (hs5.mono (B := anyTag) fun t h => by unfold anyTag; omega)
      have HY := hid (And.intro hA5 (And.intro hp5 (And.intro hs5' (And.intro hset5 hb5))))
      have hok := hA5.mir.ok
      have hgv := fun X (hX : Keeps (fun _ => False) w5 X) => give_calls own2 plb (areaD g d).m.p (zb g d) X (HY.out.1.mir.still hX).pool hok.pool (HY.out.2.2.2.1.keeps hX)
      simp only [areaD_give HG.out c] at hgv
      have HGV := hid hgv
      have HOK := hid hok
      clear HSE e17 hA5 hp5 hb5 hs5 hs5' hset5 hgv hok c7
      go_wp2_with fail
      go_region_held3 (fun X => X.cell? ⟨w.heap.size, 1, none⟩ = some (.int .i64 g.zones) ∧ X.cell? ⟨py, 6, none⟩ = some (.pointer (some ⟨mb, 0, none⟩)))
        (repeat (first | assumption | exact ⟨b1, c6⟩))
        (first | (go_at_call 14; refine Calls.mono (mpool_calls own2 mb pb db plb _ _ (HY.out.1.still ((Keeps.refl _ _).drew)).mir) ?_; rintro e w6 ⟨rfl, rfl⟩)
               | (go_at_call 15; refine Calls.mono (HGV.out _ ((Keeps.refl _ _).drew)) ?_; rintro e w6 ⟨rfl, hp6, hk6⟩;
                  have hst6 := Step.kept (A := poolTag) hk6 (HY.out.2.2.2.1.keeps (M := fun _ => False) ((Keeps.refl _ _).drew));
                  have hb6 := hst6.1.heap (HY.out.2.2.2.2) (by rw [H2.out.2.2.2.2.2]; unfold poolTag; omega);
                  have hpl6 := (HY.out.2.1.still ((Keeps.refl _ _).drew)).kept hst6.1 (by unfold poolTag; omega);
                  have e16 := And.intro (geom_six (g := g) hb6).2.1 hpl6.cells.1))
      have hk0 : Keeps (fun _ => False) w5 w5.drew := (by repeat (first | exact Keeps.refl _ _ | refine Keeps.alloc ?_ _ | refine Keeps.drew ?_ | refine Keeps.drewN ?_ _ | refine Keeps.trans ?_ (by assumption)))
      have hok6 : (areaD g (d + 1)).m.p.Ok := by
        have := HOK.out.pool.give (zb g d)
        have e := areaD_give HG.out c
        have e2 : ((areaD g d).m.p.give (zb g d)).1.Ok := this
        rwa [e] at e2
      have hA6 : AreAt w6 own2 ab mb pb db plb (areaD g (d + 1)) := by
        rw [areaD_step]
        exact ⟨(HY.out.1.still hk0).head.kept hst6.1 (by unfold poolTag; omega), (HY.out.1.still hk0).mir.turnp hst6.1 hp6 hok6 rfl⟩
      have hs6 := (HY.out.2.2.1.trans (Step.kept (A := anyTag) (w' := w5.drew) (by repeat (first | exact Keeps.refl _ _ | refine Keeps.alloc ?_ _ | refine Keeps.drew ?_ | refine Keeps.drewN ?_ _ | refine Keeps.trans ?_ (by assumption))) HY.out.2.2.2.1).1).trans (hst6.1.mono (B := anyTag) fun t h => by unfold poolTag at h; unfold anyTag; omega)
      have HZ := hid (And.intro hA6 (And.intro hpl6 (And.intro hs6 (And.intro hst6.2 hb6))))
      clear hA6 hpl6 hs6 hst6 hb6 hok6 hk0 e16 hp6 hk6 b1 c6
      go_wp2_with fail
      go_roundg (gk - 1)
      case measure => omega
      case rel =>
        exact ⟨d + 1, by omega, by go_num, HZ.out⟩
    · have hd3 : d = 3 := by omega
      subst hd3
      have HX := hid (And.intro hA (And.intro hpl (And.intro hs (And.intro hset hb))))
      clear hA hpl hs hset hb
      go_wp2_with fail
      refine Calls.mono (HMN.out own2 _ HX.out.2.2.2.1) ?_
      rintro e w5 ⟨mpb, own5, rfl, hm5, hs5, hset5⟩
      have t5 : ∀ {t}, areTag t → ¬ t = 5 := fun {t} h => by unfold areTag mirTag drvTag devTag poolTag at h; omega
      have hA5 : AreAt w5 own5 ab mb pb db plb (areaD g 3) := ⟨HX.out.1.head.kept hs5 (by omega), HX.out.1.mir.kept hs5 fun t ht => t5 (.inr ht)⟩
      have hp5 := HX.out.2.1.kept hs5 (by omega)
      have h5 := HX.out.2.2.1.trans (hs5.mono (B := anyTag) fun t h => by unfold anyTag; omega)
      have hb5 := hs5.heap HX.out.2.2.2.2 (by rw [H2.out.2.2.2.2.2]; omega)
      have ho5 := (hs5.agree _ (lt_of HX.out.2.2.2.2)).trans H2.out.2.2.2.2.2
      have HY := hid (And.intro hA5 (And.intro hp5 (And.intro h5 (And.intro hset5 (And.intro hb5 (And.intro hm5 ho5))))))
      clear hA5 hp5 h5 hset5 hb5 hm5 hs5 t5 ho5 b0 b1 b2 b3 b4 b5 c6 c7
      go_wp2_with fail
      go_loopg [68] n (fun (gk : Nat) (x : Value) (wr : World) => ∃ (k : Nat) (ownr : Nat → Nat) (A : AreaS), k + gk = n ∧ x = .int .i64 k ∧ A.Inv g ∧ AreAt wr ownr ab mb pb db plb A ∧ PlayAt wr ownr py mb ab g ∧ Step anyTag w (fun _ => 0) wr ownr ∧ Settled ownr wr ∧ wr.heap[w.heap.size]? = some (.cells #[.int .i64 g.domains, .int .i64 g.zones, .int .i64 g.size, .int .i64 g.blocks, .int .i64 g.spare, .int .i64 g.opn] 23 (0, 0)) ∧ MapAt wr ownr 5 mpb ⟨g, List.replicate g.blocks.toNat ent0, List.replicate g.all.toNat 0⟩ ∧ ownr w.heap.size = 0)
      case atStart => exact ⟨0, own5, areaD g 3, by omega, rfl, areaD_inv HG.out, HY.out⟩
      case round =>
        obtain ⟨k, ownr, A, hk, rfl, hinv, hA, hpl, hs, hset, hb, hm, ho⟩ := hrel
        obtain ⟨c6, c7⟩ := hpl.cells
        have HI := hid hinv
        have HX := hid (And.intro hA (And.intro hpl (And.intro hs (And.intro hset (And.intro hb (And.intro hm ho))))))
        clear hA hpl hs hset hb hm hinv ho
        by_cases c : k < n
        · have dd : decide ((k : Int) < n) = true := by simp; omega
          obtain ⟨wo, hwo⟩ : ∃ wo, wo = wr := ⟨_, rfl⟩
          subst hwo
          obtain ⟨gko, hgo⟩ : ∃ gko, gko = gk := ⟨_, rfl⟩
          subst hgo
          have hk1 : IntKind.i64.wrap ((k : Int) + 1) = (k : Int) + 1 := IntWalk.i64_in _ (by omega)
          go_wp2_with fail
          go_loopg [71] 3 (fun (gk : Nat) (x : Value) (wx : World) => ∃ d : Nat, d + gk = 3 ∧ x = .int .i64 d ∧ Keeps (fun _ => False) wo wx ∧ wx.heap[wo.heap.size]? = some (.cells (wasC A d) 43 (0, 0)))
          case atStart => exact ⟨0, by omega, rfl, (by repeat (first | exact Keeps.refl _ _ | refine Keeps.alloc ?_ _ | refine Keeps.drew ?_ | refine Keeps.drewN ?_ _ | refine Keeps.trans ?_ (by assumption))), heap_new _ _⟩
          case round =>
            obtain ⟨d, hd, rfl, hkx, hbx⟩ := hrel
            by_cases cd : d < 3
            · have dd : decide ((d : Int) < 3) = true := by simp; omega
              have q7 := (HX.out.2.1.still hkx).cells.2
              have HXX := hid (And.intro hkx hbx)
              clear hkx hbx
              go_wp2_with fail
              refine Calls.mono (azones_calls ownr ab mb pb db plb A d cd _ (HX.out.1.still HXX.out.1)) ?_
              rintro e w7 ⟨rfl, hk7⟩
              have hb7 := hk7.heap HXX.out.2 id
              have r1 : w7.frozen? ⟨wo.heap.size, d, none⟩ = false := free_of hb7 d
              obtain ⟨v, r2⟩ : ∃ v, w7.cell? ⟨wo.heap.size, d, none⟩ = some v := ⟨_, (cell_of hb7 d).trans (Array.getElem?_eq_getElem (by simpa [wasC] using cd))⟩
              have d0 : decide ((0 : Int) ≤ d) = true := by simp
              have HZ := hid (And.intro hk7 hb7)
              clear hk7 hb7
              go_wp2_with fail
              go_roundg (gk - 1)
              case measure => omega
              case rel =>
                refine ⟨d + 1, by omega, by go_num, (HXX.out.1.trans HZ.out.1).setCell (fun h => absurd h (Nat.lt_irrefl _)) _, ?_⟩
                rw [← wasC_set A cd]
                exact heap_set HZ.out.2 _ _
            · have hd3 : d = 3 := by omega
              subst hd3
              have q7 := (HX.out.2.1.still hkx).cells.2
              have hmb : MapAt wr ownr 5 mpb ⟨g, List.replicate g.blocks.toNat ent0, List.replicate g.all.toNat 0⟩ := HX.out.2.2.2.2.2.1.still hkx
              obtain ⟨q1, q2, q3, q4, q5⟩ := AreaS.seq_turn HI.out (fun z => secsOf tab0 ⟨k + 1, 1, 1, mpb⟩ ⟨g, List.replicate g.blocks.toNat ent0, List.replicate g.all.toNat 0⟩ z g.parts.toNat) (fun z => by simp [secsOf]) 3 (by omega)
              have hwr := aWrite_calls ownr ab mb pb db plb A 5 wrTag_five.1 ⟨k + 1, 1, 1, mpb⟩ ⟨g, List.replicate g.blocks.toNat ent0, List.replicate g.all.toNat 0⟩ wr (HX.out.1.still hkx) (HX.out.2.2.2.1.keeps hkx) hmb (by simp [SnapS.nums, inB]; omega) (map0_fits _).2 (map0_fits _).1 HI.out.mg.symm _ rfl q3 q2.flush.1
              rw [q1] at hwr
              obtain ⟨A6, hA6⟩ : ∃ A6, (AreaS.seq A (fun z => secsOf tab0 ⟨k + 1, 1, 1, mpb⟩ ⟨g, List.replicate g.blocks.toNat ent0, List.replicate g.all.toNat 0⟩ z g.parts.toNat) 3).1 = A6 := ⟨_, rfl⟩
              rw [hA6] at hwr q2 q4
              clear hA6 q1 q3 q5
              have HQ := hid (And.intro hwr (And.intro q2 q4))
              have HXX := hid (And.intro hkx hbx)
              clear hwr q2 q4 hmb hkx hbx
              simp only [snapC] at HQ
              go_wp2_with fail
              refine Calls.mono HQ.out.1 ?_
              rintro e w6 ⟨rfl, own6, hA6, hs6, hset6⟩
              have hpl6 := (HX.out.2.1.still HXX.out.1).kept hs6 wr_seven
              have hb6 := hs6.heap (HXX.out.1.heap HX.out.2.2.2.2.1 id) (by rw [HX.out.2.2.2.2.2.2]; exact wrTag_five.2)
              have hw6 := hs6.heap HXX.out.2 (by rw [HX.out.2.2.2.1 _ (Nat.le_refl _)]; exact wrTag_five.2)
              have hst6 := (HX.out.2.2.1.trans (Step.kept (A := anyTag) (HXX.out.1.mono fun _ _ h => h.elim) HX.out.2.2.2.1).1).trans (hs6.mono fun t => wr_any)
              have hm6 : MapAt w6 own6 5 mpb ⟨g, List.replicate g.blocks.toNat ent0, List.replicate g.all.toNat 0⟩ := (HX.out.2.2.2.2.2.1.still HXX.out.1).kept hs6 wrTag_five.1
              have ho6 := (hs6.agree _ (lt_of (HXX.out.1.heap HX.out.2.2.2.2.1 id))).trans HX.out.2.2.2.2.2.2
              have HY := hid (And.intro HQ.out.2.1.flush.2 (And.intro hA6 (And.intro hpl6 (And.intro hst6 (And.intro hset6 (And.intro hb6 (And.intro hm6 ho6)))))))
              have HW := hid hw6
              clear hA6 hpl6 hst6 hset6 hb6 hm6 ho6 hw6 hs6
              go_wp2_with fail
              go_loopg [104] 3 (fun (gk : Nat) (x : Value) (wx : World) => ∃ d : Nat, d + gk = 3 ∧ x = .int .i64 d ∧ Keeps (fun _ => False) w6 wx)
              case atStart => exact ⟨0, by omega, rfl, (by repeat (first | exact Keeps.refl _ _ | refine Keeps.alloc ?_ _ | refine Keeps.drew ?_ | refine Keeps.drewN ?_ _ | refine Keeps.trans ?_ (by assumption)))⟩
              case round =>
                obtain ⟨d, hd, rfl, hkx⟩ := hrel
                by_cases cd : d < 3
                · have dd : decide ((d : Int) < 3) = true := by simp; omega
                  have HK := hid hkx
                  have q7 := (HY.out.2.2.1.still hkx).cells.2
                  clear hkx
                  go_wp2_with fail
                  refine Calls.mono (azones_calls own6 ab mb pb db plb _ d cd _ (HY.out.2.1.still HK.out)) ?_
                  rintro e w7 ⟨rfl, hk7⟩
                  have hk8 := HK.out.trans hk7
                  have r1 : w7.cell? ⟨wo.heap.size, d, none⟩ = some (.int .i64 (A.cur d)) := (cell_of (hk8.heap HW.out id) d).trans (wasC_at A cd)
                  have d0 : decide ((0 : Int) ≤ d) = true := by simp
                  obtain ⟨b0, b1, b2, b3, b4, b5⟩ := geom_six (g := g) (hk8.heap HY.out.2.2.2.2.2.1 id)
                  obtain ⟨u1, u2, u3, -⟩ := HQ.out.2.2 d cd
                  have zf := zab_facts HG.out cd
                  have z3 := zf.2.2.1
                  have z4 := zf.2.2.2.1
                  have hall := g.all_bd (g.right_small HG.out)
                  have w1' : IntKind.i64.wrap ((d : Int) * g.zones) = za g d := by rw [← z3]; exact IntWalk.i64_in _ (by omega)
                  have w2' : IntKind.i64.wrap ((za g d : Int) + 1) = zb g d := by rw [show (za g d : Int) + 1 = zb g d by omega]; exact IntWalk.i64_in _ (by omega)
                  have e5 : (zb g d : Int) ≠ (za g d : Int) := by omega
                  have HZ := hid hk8
                  clear hk7 hk8 zf z3 z4 hall
                  simp only [u1]
                  generalize A6.cur d = x6 at *
                  generalize A.cur d = xo at *
                  generalize (za g d : Int) = xa at *
                  generalize (zb g d : Int) = xb at *
                  clear u1
                  rcases u3 with rfl | rfl
                  · go_wp2_with fail
                    go_roundg (gk - 1)
                    case measure => omega
                    case rel => exact ⟨d + 1, by omega, by go_num, HZ.out⟩
                  · go_wp2_with fail
                    go_roundg (gk - 1)
                    case measure => omega
                    case rel => exact ⟨d + 1, by omega, by go_num, HZ.out⟩
                · have hd3 : d = 3 := by omega
                  subst hd3
                  have HK := hid hkx
                  clear hkx
                  go_wp2_with fail
                  go_roundg (gko - 1)
                  case measure => omega
                  case rel =>
                    have st := Step.kept (A := anyTag) (HK.out.mono fun _ _ h => h.elim) HY.out.2.2.2.2.1
                    exact ⟨k + 1, own6, _, by omega, by go_num, HY.out.1, HY.out.2.1.still HK.out, HY.out.2.2.1.still HK.out, HY.out.2.2.2.1.trans st.1, st.2, HK.out.heap HY.out.2.2.2.2.2.1 id, HY.out.2.2.2.2.2.2.1.still HK.out, HY.out.2.2.2.2.2.2.2⟩
        · have dd : decide ((k : Int) < n) = false := by simp; omega
          go_wp2_with fail
          go_ret
          exact ⟨rfl, HX.out.2.2.1.keeps.mono fun _ _ h => absurd rfl h⟩
end Go.Rv
