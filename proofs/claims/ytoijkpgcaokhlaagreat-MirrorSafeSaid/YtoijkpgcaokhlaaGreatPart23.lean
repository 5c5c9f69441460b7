/- Areas whose zones may be bad: the easy cases; the slices that come in. -/
import Derived.Test.YtoijkpgcaokhlaaGreatPart19
import Derived.Test.YtoijkpgcaokhlaaGreatPart22
set_option linter.unusedVariables false
set_option linter.unusedSimpArgs false
namespace Go.Rv
open Go Go.RowKit Go.Proofs
attribute [local irreducible] wpQuiet tab0 tabV
attribute [local go_sem] cellsAt_new0 cellsAt_lt cellsAt_drew size_bytesV

/-- numbers that came in. -/
structure IntsAt (w : World) (o : Option Addr) (xs : List Int) : Prop where
  get : ∀ (i : Nat) (x : Int), xs[i]? = some x → ∃ b off, o = some ⟨b, off, none⟩ ∧ w.cell? ⟨b, off + i, none⟩ = some (.int .i64 x)
theorem IntsAt.in {w wr : World} {own : Nat → Nat} {o : Option Addr} {xs : List Int} (h : IntsAt w o xs) (hs : Step anyTag w (fun _ => 0) wr own) : IntsAt wr o xs := by
  refine ⟨fun i x hx => ?_⟩
  obtain ⟨b, off, h1, h2⟩ := h.get i x hx
  exact ⟨b, off, h1, (hs.keeps.cell (cell_lt h2) (fun h => h rfl)).trans h2⟩

variable (g : GeomS) (o1 o2 : Option Addr) (xs ys : List Int) (c1 c2 : Nat) (w : World)
set_option maxHeartbeats 500000 in
set_option maxRecDepth 100000 in
theorem bad_no (hg : g.right = false ∨ 64 < g.all) : Calls Tryz.prog 4 #[geomV g, .slice o1 xs.length c1, .slice o2 ys.length c2] w fun e w' => e = .returned (.bool true) ∧ Keeps (fun _ => False) w w' := by
  have hst := fun X => started_no g hg X
  simp only [geomV] at hst ⊢
  go_enter Tryz.func4, Tryz.ntmps4
  go_wp2_with fail
  refine Calls.mono (anchor15_calls _) ?_
  rintro e w1 ⟨rfl, hk1⟩
  have hb := hk1.heap (heap_new w _) id
  obtain ⟨b0, b1, b2, b3, b4, b5⟩ := geom_six (g := g) hb
  have hk : Keeps (fun _ => False) w w1 := Keeps.trans (by repeat (first | exact Keeps.refl _ _ | refine Keeps.alloc ?_ _ | refine Keeps.drew ?_ | refine Keeps.drewN ?_ _ | refine Keeps.trans ?_ (by assumption))) hk1
  have H1 := hid hk
  clear hk hk1 hb
  go_wp2_with fail
  refine Calls.mono (hst _) ?_
  rintro e w2 ⟨rfl, hk2⟩
  have H2 := hid (H1.out.trans hk2)
  clear hk2
  go_wp2_with fail
  go_ret
  exact ⟨rfl, H2.out⟩

set_option maxHeartbeats 500000 in
set_option maxRecDepth 100000 in
theorem bad_out (hg : g.right = true) (ha : g.all ≤ 64) (hn : 64 < xs.length ∨ 64 < ys.length) : Calls Tryz.prog 4 #[geomV g, .slice o1 xs.length c1, .slice o2 ys.length c2] w fun e w' => e = .returned (.bool true) ∧ Keeps (fun _ => False) w w' := by
  have hst := fun X => started_yes g hg ha (fun _ => 0) X (fun _ _ => rfl)
  simp only [geomV] at hst ⊢
  go_enter Tryz.func4, Tryz.ntmps4
  go_wp2_with fail
  refine Calls.mono (anchor15_calls _) ?_
  rintro e w1 ⟨rfl, hk1⟩
  have hb := hk1.heap (heap_new w _) id
  obtain ⟨b0, b1, b2, b3, b4, b5⟩ := geom_six (g := g) hb
  have hk : Keeps (fun _ => False) w w1 := Keeps.trans (by repeat (first | exact Keeps.refl _ _ | refine Keeps.alloc ?_ _ | refine Keeps.drew ?_ | refine Keeps.drewN ?_ _ | refine Keeps.trans ?_ (by assumption))) hk1
  have H1 := hid hk
  clear hk hk1 hb
  go_wp2_with fail
  refine Calls.mono (hst _) ?_
  rintro e w2 ⟨py, mb, ab, pb, db, plb, own2, rfl, -, -, hs, -⟩
  have H2 := hid (H1.out.trans (hs.keeps.mono fun k _ h => absurd rfl h))
  clear hs hst
  by_cases c : 64 < xs.length
  · have d1 : decide (64 < (xs.length : Int)) = true := by simp; omega
    go_wp2_with fail
    go_ret
    exact ⟨rfl, H2.out⟩
  · have d1 : decide (64 < (xs.length : Int)) = false := by simp; omega
    have d2 : decide (64 < (ys.length : Int)) = true := by simp; omega
    go_wp2_with fail
    go_ret
    exact ⟨rfl, H2.out⟩
end Go.Rv

/- Areas whose zones may be bad: the law's way. -/
namespace Go.Rv
open Go Go.RowKit Go.Proofs
attribute [local irreducible] wpQuiet tab0 tabV
attribute [local go_sem] cellsAt_new0 cellsAt_lt cellsAt_drew size_bytesV

/-- between two rounds. -/
structure BadIn (w : World) (own2 : Nat → Nat) (py mb ab pb db plb : Nat) (g : GeomS) (A : AreaS) (wr : World) : Prop where
  at_ : AreAt wr own2 ab mb pb db plb A
  play : PlayAt wr own2 py mb ab g
  step : Step anyTag w (fun _ => 0) wr own2
  set : Settled own2 wr
  box : wr.heap[w.heap.size]? = some (.cells #[.int .i64 g.domains, .int .i64 g.zones, .int .i64 g.size, .int .i64 g.blocks, .int .i64 g.spare, .int .i64 g.opn] 23 (0, 0))
theorem BadIn.go {w : World} {own2 : Nat → Nat} {py mb ab pb db plb : Nat} {g : GeomS} {A A' : AreaS} {wr w' : World} (h : BadIn w own2 py mb ab pb db plb g A wr) (ho : own2 w.heap.size = 0) {B : Nat → Prop} (hs : Step B wr own2 w' own2) (hset : Settled own2 w') (hB : ¬ B 7 ∧ ¬ B 0) (hA : AreAt w' own2 ab mb pb db plb A') : BadIn w own2 py mb ab pb db plb g A' w' :=
  ⟨hA, h.play.kept hs hB.1, h.step.trans (hs.mono fun t ht => by unfold anyTag; intro e; subst e; exact hB.2 ht), hset, hs.heap h.box (by rw [ho]; exact hB.2)⟩
theorem BadIn.still {w : World} {own2 : Nat → Nat} {py mb ab pb db plb : Nat} {g : GeomS} {A : AreaS} {wr w' : World} (h : BadIn w own2 py mb ab pb db plb g A wr) (hk : Keeps (fun _ => False) wr w') : BadIn w own2 py mb ab pb db plb g A w' :=
  ⟨h.at_.still hk, h.play.still hk, h.step.trans (Step.kept (A := anyTag) (hk.mono fun _ _ h => h.elim) h.set).1, h.set.keeps hk, hk.heap h.box id⟩

set_option maxHeartbeats 2000000 in
set_option maxRecDepth 100000 in
theorem bad_in (g : GeomS) (o1 o2 : Option Addr) (xs ys : List Int) (c1 c2 : Nat) (w : World) (hg : g.right = true) (ha : g.all ≤ 64) (hn : xs.length ≤ 64 ∧ ys.length ≤ 64) (hx : IntsAt w o1 xs) (hy : IntsAt w o2 ys) : Calls Tryz.prog 4 #[geomV g, .slice o1 xs.length c1, .slice o2 ys.length c2] w fun e w' => e = .returned (.bool true) ∧ Keeps (fun _ => False) w w' := by
  have hst := fun X => started_yes g hg ha (fun _ => 0) X (fun _ _ => rfl)
  have hmn := fun own X h => mapnew_good own 5 g hg X h
  have HG := hid hg
  have HN := hid hn
  have HXY := hid (And.intro hx hy)
  simp only [geomV] at hst hmn ⊢
  have HMN := hid hmn
  have d1 : decide (64 < (xs.length : Int)) = false := by simp; omega
  have d2 : decide (64 < (ys.length : Int)) = false := by simp; omega
  clear hmn hg ha hn hx hy
  go_enter Tryz.func4, Tryz.ntmps4
  go_wp2_with fail
  refine Calls.mono (anchor15_calls _) ?_
  rintro e w1 ⟨rfl, hk1⟩
  have hb := hk1.heap (heap_new w _) id
  obtain ⟨b0, b1, b2, b3, b4, b5⟩ := geom_six (g := g) hb
  have hk : Keeps (fun _ => False) w w1 := Keeps.trans (by repeat (first | exact Keeps.refl _ _ | refine Keeps.alloc ?_ _ | refine Keeps.drew ?_ | refine Keeps.drewN ?_ _ | refine Keeps.trans ?_ (by assumption))) hk1
  have H1 := hid (And.intro hk hb)
  clear hk hk1 hb
  go_wp2_with fail
  refine Calls.mono (hst _) ?_
  rintro e w2 ⟨py, mb, ab, pb, db, plb, own2, rfl, hpl, har, hs, hset⟩
  have o0 : ∀ k, ¬ anyTag ((fun _ => 0 : Nat → Nat) k) := fun k h => h rfl
  have hs2 : Step anyTag w (fun _ => 0) w2 own2 := (Step.kept (A := anyTag) (H1.out.1.mono fun _ _ h => h.elim) (fun _ _ => rfl)).1.trans hs
  have hb2 := hs.heap H1.out.2 (o0 w.heap.size)
  have ho2 := hs.agree w.heap.size (lt_of H1.out.2)
  rw [← setD_zero] at har
  have H2 : Hid (BadIn w own2 py mb ab pb db plb g (setD g 0) w2) := hid ⟨har, hpl, hs2, hset, hb2⟩
  have HO := hid ho2
  clear hpl har hs hs2 hset hb2 ho2 hst o0 b0 b1 b2 b3 b4 b5
  go_wp2_with fail
  clear d1 d2
  go_loopg [39] 3 (fun (gk : Nat) (x : Value) (wr : World) => ∃ d : Nat, d + gk = 3 ∧ x = .int .i64 d ∧ BadIn w own2 py mb ab pb db plb g (setD g d) wr)
  case atStart => exact ⟨0, by omega, rfl, H2.out⟩
  case round =>
    obtain ⟨d, hd, rfl, hin⟩ := hrel
    obtain ⟨c6, c7⟩ := hin.play.cells
    obtain ⟨b0, b1, b2, b3, b4, b5⟩ := geom_six (g := g) hin.box
    by_cases c : d < 3
    · have dd : decide ((d : Int) < 3) = true := by simp; omega
      have zf := zab_facts HG.out c
      have z3 := zf.2.2.1
      have hall := g.all_bd (g.right_small HG.out)
      have w1' : IntKind.i64.wrap ((d : Int) * g.zones) = za g d := by rw [← z3]; exact IntWalk.i64_in _ (by omega)
      have hse := fun X (hX : Keeps (fun _ => False) wr X) => aset_ok own2 ab mb pb db plb (setD g d) d c (-1) (za g d) X (hin.at_.still hX) (hin.set.keeps hX) (by simp [AreaS.fits]) (by simp [AreaS.fits, show (setD g d).m.g = g from rfl, zf.2.2.2.2.1]) (.inr rfl)
      simp only [setD_set] at hse
      have HX := hid hin
      have HSE := hid hse
      clear hin hse zf z3 hall c6
      go_wp2_with fail
      go_region_held3 (fun X => X.cell? ⟨w.heap.size, 1, none⟩ = some (.int .i64 g.zones) ∧ X.cell? ⟨py, 7, none⟩ = some (.pointer (some ⟨ab, 0, none⟩)))
        (repeat (first | assumption | exact ⟨b1, c7⟩))
        ((go_at_call 13; refine Calls.mono (HSE.out _ (by first | exact Keeps.refl _ _ | exact (Keeps.refl _ _).drew)) ?_; rintro e w5 ⟨rfl, hA5, hs5, hset5⟩; have hi5 := (HX.out.still ((Keeps.refl _ _).drew)).go HO.out hs5 hset5 ⟨by omega, by omega⟩ hA5; have e17 := And.intro (geom_six (g := g) hi5.box).2.1 hi5.play.cells.2))
      have HY := hid hi5
      clear HSE e17 hA5 hs5 hset5 hi5 c7 b0 b1 b2 b3 b4 b5
      go_wp2_with fail
      go_roundg (gk - 1)
      case measure => omega
      case rel => exact ⟨d + 1, by omega, by go_num, HY.out⟩
    · have hd3 : d = 3 := by omega
      subst hd3
      have HX := hid hin
      clear hin b0 b1 b2 b3 b4 b5 c6 c7
      go_wp2_with fail
      go_loopg [55] ys.length (fun (gk : Nat) (x : Value) (wr : World) => ∃ (k : Nat) (A : AreaS), k + gk = ys.length ∧ x = .int .i64 k ∧ BadIn w own2 py mb ab pb db plb g A wr ∧ A.Pre g)
      case atStart => exact ⟨0, setD g 3, by omega, rfl, HX.out, setD_pre g⟩
      case round =>
        obtain ⟨k, A, hk, rfl, hin, hpre⟩ := hrel
        obtain ⟨c6, c7⟩ := hin.play.cells
        by_cases c : k < ys.length
        · have dd : decide (k < ys.length) = true := by simpa using c
          obtain ⟨b, off, rfl, hc⟩ := (HXY.out.2.in hin.step).get k ys[k] (List.getElem?_eq_getElem c)
          generalize ys[k] = y at *
          have hno := HN.out.2
          have HX2 := hid (And.intro hin hpre)
          clear hin hpre
          go_wp2_with fail
          refine Calls.mono (aHas_calls own2 ab mb A.cur A.old y _ HX2.out.1.at_.head) ?_
          rintro e w5 ⟨rfl, hk5⟩
          have hi5 := HX2.out.1.still hk5
          have c6 := hi5.play.cells.1
          have HY := hid hi5
          clear hk5 hi5 c7 hc
          cases hbv : decide (y ∈ aZ A.cur A.old) with
          | true =>
            have HBV := hid hbv
            clear hbv
            go_wp2_with fail
            go_roundg (gk - 1)
            case measure => omega
            case rel => exact ⟨k + 1, A, by omega, by go_num, HY.out, HX2.out.2⟩
          | false =>
            have HBV := hid hbv
            clear hbv
            go_wp2_with fail
            refine Calls.mono (mpool_calls own2 mb pb db plb _ _ HY.out.at_.mir) ?_
            rintro e w6 ⟨rfl, rfl⟩
            go_wp2_with fail
            refine Calls.mono (give_calls own2 plb A.m.p y _ HY.out.at_.mir.pool HY.out.at_.mir.ok.pool HY.out.set) ?_
            rintro e w6 ⟨rfl, hp6, hk6⟩
            have hst6 := Step.kept (A := poolTag) hk6 HY.out.set
            have hA6 : AreAt w6 own2 ab mb pb db plb ⟨{ A.m with p := (A.m.p.give y).1 }, A.cur, A.old⟩ := ⟨HY.out.at_.head.kept hst6.1 (by unfold poolTag; omega), HY.out.at_.mir.turnp hst6.1 hp6 (HY.out.at_.mir.ok.pool.give y) ((A.m.p.give_g y).trans HY.out.at_.mir.ok.pg)⟩
            have hi6 := HY.out.go HO.out hst6.1 hst6.2 ⟨by unfold poolTag; omega, by unfold poolTag; omega⟩ hA6
            have HZ := hid hi6
            clear hp6 hk6 hst6 hA6 hi6 c6
            go_wp2_with fail
            go_roundg (gk - 1)
            case measure => omega
            case rel => exact ⟨k + 1, _, by omega, by go_num, HZ.out, HX2.out.2.give y⟩
        · have dd : decide (k < ys.length) = false := by simpa using c
          have HX2 := hid (And.intro hin hpre)
          clear hin hpre c6 c7
          go_wp2_with fail
          go_loopg [76] xs.length (fun (gk : Nat) (x : Value) (wr : World) => ∃ (k : Nat) (A : AreaS), k + gk = xs.length ∧ x = .int .i64 k ∧ BadIn w own2 py mb ab pb db plb g A wr ∧ A.Pre g)
          case atStart => exact ⟨0, A, by omega, rfl, HX2.out.1, HX2.out.2⟩
          case round =>
            obtain ⟨k, A, hk, rfl, hin, hpre⟩ := hrel
            obtain ⟨c6, c7⟩ := hin.play.cells
            by_cases c : k < xs.length
            · have dd : decide (k < xs.length) = true := by simpa using c
              obtain ⟨b, off, rfl, hc⟩ := (HXY.out.1.in hin.step).get k xs[k] (List.getElem?_eq_getElem c)
              generalize xs[k] = y at *
              have hno := HN.out.1
              have HX3 := hid (And.intro hin hpre)
              clear hin hpre
              go_wp2_with fail
              refine Calls.mono (quar_calls own2 mb pb db plb A.m y _ HX3.out.1.at_.mir HX3.out.1.set (fun h => by have := (GeomS.domain_in h).1; rw [HX3.out.2.a, HX3.out.2.b]; omega)) ?_
              rintro e w5 ⟨rfl, hM5, hs5, hset5⟩
              have hA5 : AreAt w5 own2 ab mb pb db plb ⟨(A.m.quar y).1, A.cur, A.old⟩ := ⟨HX3.out.1.at_.head.kept hs5 (by unfold poolTag; omega), hM5⟩
              have hi5 := HX3.out.1.go HO.out hs5 hset5 ⟨by unfold poolTag; omega, by unfold poolTag; omega⟩ hA5
              have HZ := hid hi5
              clear hM5 hs5 hset5 hA5 hi5 c6 c7 hc
              go_wp2_with fail
              go_roundg (gk - 1)
              case measure => omega
              case rel => exact ⟨k + 1, _, by omega, by go_num, HZ.out, HX3.out.2.quar y⟩
            · have dd : decide (k < xs.length) = false := by simpa using c
              have HX3 := hid (And.intro hin hpre)
              clear hin hpre c6 c7
              go_wp2_with fail
              go_loopg [14, 87] 3 (fun (gk : Nat) (nv x : Value) (wr : World) => ∃ d : Nat, d + gk = 3 ∧ x = .int .i64 d ∧ nv = .int .i64 (A.wants d : Nat) ∧ BadIn w own2 py mb ab pb db plb g A wr)
              case atStart => exact ⟨0, by omega, rfl, rfl, HX3.out.1⟩
              case round =>
                obtain ⟨d, hd, rfl, rfl, hin⟩ := hrel
                obtain ⟨c6, c7⟩ := hin.play.cells
                obtain ⟨b0, b1, b2, b3, b4, b5⟩ := geom_six (g := g) hin.box
                by_cases c : d < 3
                · have dd : decide ((d : Int) < 3) = true := by simp; omega
                  have zf := zab_facts HG.out c
                  have z3 := zf.2.2.1
                  have hall := g.all_bd (g.right_small HG.out)
                  have w1' : IntKind.i64.wrap ((d : Int) * g.zones) = za g d := by rw [← z3]; exact IntWalk.i64_in _ (by omega)
                  have hwl := A.wants_le d
                  have hws : A.wants (d + 1) = A.wants d + if A.can d then 1 else 0 := rfl
                  have hcan := HX3.out.2.can c
                  have hnd : d < A.m.p.nd := by
                    have hd := (g.right_small HG.out).d
                    unfold PoolS.nd; rw [HX3.out.2.pg]; omega
                  have hcn : A.m.p.count d = ((A.m.p.L d).length : Int) := by unfold PoolS.count; rw [if_neg (by omega)]; simp
                  have HX := hid hin
                  have HF : Hid (∀ W, Keeps (fun _ => False) wr W → W.cell? ⟨py, 6, none⟩ = some (.pointer (some ⟨mb, 0, none⟩)) ∧ W.cell? ⟨w.heap.size, 1, none⟩ = some (.int .i64 g.zones)) := hid fun W hW => ⟨(HX.out.still hW).play.cells.1, (geom_six (g := g) (HX.out.still hW).box).2.1⟩
                  have hbd := fun X (hX : Keeps (fun _ => False) wr X) => mbad_calls own2 mb pb db plb A.m (za g d) X (hin.at_.mir.still hX)
                  have hct := fun X (hX : Keeps (fun _ => False) wr X) => count_calls own2 plb A.m.p d X (hin.at_.mir.still hX).pool
                  rw [hcn] at hct
                  cases hb : A.m.isBad (za g d) with
                  | false =>
                    rw [hb] at hbd hcan
                    have hcan' : A.can d = true := by rw [hcan]; rfl
                    rw [hcan', if_pos rfl] at hws
                    have HWS := hid hws
                    have HBD := hid hbd
                    clear hin zf z3 hall hws hcan hcan' hcn hbd hct hb hnd c6 c7 b0 b1 b2 b3 b4 b5
                    go_wp2_with fail
                    refine wp_region_still (by kernel_rfl) (by kernel_rfl) ?_
                    repeat (first | (refine still_pass ?_ ?_; (focus (first | (go_simp; done) | rfl)); try simp only [Act.put, List.setIfInBounds_toArray, List.set_cons_succ, List.set_cons_zero]) | (apply still_step; (focus (go_simp; done)); (focus (intro W hW; unfold Oper.quietAt; (obtain ⟨c6, b1⟩ := HF.out W hW); go_simp; first | done | with_reducible rfl | (go_at_call 21; exact still_call hW (HBD.out W hW)) | exact ⟨rfl, rfl⟩)); try simp only [Act.put, List.setIfInBounds_toArray, List.set_cons_succ, List.set_cons_zero]))
                    refine wpQuiet_nil ?_
                    intro W hW
                    have HY := hid (HX.out.still hW)
                    clear hW
                    go_wp2_with fail
                    go_roundg (gk - 1)
                    case measure => omega
                    case rel => exact ⟨d + 1, by omega, by go_num, by rw [HWS.out]; go_num, HY.out⟩
                  | true =>
                    rw [hb] at hbd hcan
                    have hcan' : A.can d = !(A.m.p.L d).isEmpty := by rw [hcan]; rfl
                    rw [hcan'] at hws
                    have hlen : ((A.m.p.L d).length : Int) = 0 ∧ A.wants (d + 1) = A.wants d ∨ 0 < ((A.m.p.L d).length : Int) ∧ A.wants (d + 1) = A.wants d + 1 := by
                      rw [hws]
                      cases A.m.p.L d with
                      | nil => exact .inl ⟨rfl, rfl⟩
                      | cons x l => exact .inr ⟨by simp only [List.length_cons]; omega, rfl⟩
                    generalize ((A.m.p.L d).length : Int) = cn at *
                    have HCT : Hid (∀ W, Keeps (fun _ => False) wr W → Calls Tryz.prog 22 #[.pointer (some ⟨plb, 0, none⟩), .int .i64 d] W fun e w' => e = .returned (.int .i64 cn) ∧ Keeps (fun _ => False) W w') := hid fun W hW => (hct W hW).mono fun e w' ⟨h1, h2⟩ => ⟨h1, h2 ▸ Keeps.refl _ _⟩
                    have HPL : Hid (∀ W, Keeps (fun _ => False) wr W → Calls Tryz.prog 14 #[.pointer (some ⟨mb, 0, none⟩)] W fun e w' => e = .returned (.pointer (some ⟨plb, 0, none⟩)) ∧ Keeps (fun _ => False) W w') := hid fun W hW => (mpool_calls own2 mb pb db plb _ _ (HX.out.still hW).at_.mir).mono fun e w' ⟨h1, h2⟩ => ⟨h1, h2 ▸ Keeps.refl _ _⟩
                    have HBD := hid hbd
                    clear hin zf z3 hall hws hcan hcan' hcn hbd hct hb hnd c6 c7 b0 b1 b2 b3 b4 b5
                    rcases hlen with ⟨rfl, hw1⟩ | ⟨hc0, hw1⟩
                    · have HWS := hid hw1
                      clear hw1
                      go_wp2_with fail
                      refine wp_region_still (by kernel_rfl) (by kernel_rfl) ?_
                      repeat (first | (refine still_pass ?_ ?_; (focus (first | (go_simp; done) | rfl)); try simp only [Act.put, List.setIfInBounds_toArray, List.set_cons_succ, List.set_cons_zero]) | (apply still_step; (focus (go_simp; done)); (focus (intro W hW; unfold Oper.quietAt; (obtain ⟨c6, b1⟩ := HF.out W hW); go_simp; first | done | with_reducible rfl | (first | (go_at_call 21; exact still_call hW (HBD.out W hW)) | (go_at_call 14; exact still_call hW (HPL.out W hW)) | (go_at_call 22; exact still_call hW (HCT.out W hW))) | exact ⟨rfl, rfl⟩)); try simp only [Act.put, List.setIfInBounds_toArray, List.set_cons_succ, List.set_cons_zero]))
                      refine wpQuiet_nil ?_
                      intro W hW
                      have HY := hid (HX.out.still hW)
                      clear hW
                      go_wp2_with fail
                      go_roundg (gk - 1)
                      case measure => omega
                      case rel => exact ⟨d + 1, by omega, by go_num, by rw [HWS.out], HY.out⟩
                    · have HWS := hid hw1
                      have hc1 : decide (0 < cn) = true := by simpa using hc0
                      clear hw1 hc0
                      go_wp2_with fail
                      refine wp_region_still (by kernel_rfl) (by kernel_rfl) ?_
                      repeat (first | (refine still_pass ?_ ?_; (focus (first | (go_simp; done) | rfl)); try simp only [Act.put, List.setIfInBounds_toArray, List.set_cons_succ, List.set_cons_zero]) | (apply still_step; (focus (go_simp; done)); (focus (intro W hW; unfold Oper.quietAt; (obtain ⟨c6, b1⟩ := HF.out W hW); go_simp; first | done | with_reducible rfl | (first | (go_at_call 21; exact still_call hW (HBD.out W hW)) | (go_at_call 14; exact still_call hW (HPL.out W hW)) | (go_at_call 22; exact still_call hW (HCT.out W hW))) | exact ⟨rfl, rfl⟩)); try simp only [Act.put, List.setIfInBounds_toArray, List.set_cons_succ, List.set_cons_zero]))
                      refine wpQuiet_nil ?_
                      intro W hW
                      have HY := hid (HX.out.still hW)
                      clear hW
                      go_wp2_with fail
                      go_roundg (gk - 1)
                      case measure => omega
                      case rel => exact ⟨d + 1, by omega, by go_num, by rw [HWS.out]; go_num, HY.out⟩
                · have hd3 : d = 3 := by omega
                  subst hd3
                  have HX := hid hin
                  clear hin c6 c7
                  go_wp2_with fail
                  refine Calls.mono (HMN.out own2 _ HX.out.set) ?_
                  rintro e w5 ⟨mpb, own5, rfl, hm5, hs5, hset5⟩
                  have t5 : ∀ {t}, areTag t → ¬ t = 5 := fun {t} h => by unfold areTag mirTag drvTag devTag poolTag at h; omega
                  have hA5 : AreAt w5 own5 ab mb pb db plb A := ⟨HX.out.at_.head.kept hs5 (by omega), HX.out.at_.mir.kept hs5 fun t ht => t5 (.inr ht)⟩
                  have hp5 := HX.out.play.kept hs5 (by omega)
                  have h5 := HX.out.step.trans (hs5.mono (B := anyTag) fun t h => by unfold anyTag; omega)
                  obtain ⟨-, c7⟩ := hp5.cells
                  obtain ⟨q1, q2, q3, -, -⟩ := AreaS.seq_two (HX3.out.2.inv HG.out HX3.out.1.at_.mir.ok.pool) (fun z => secsOf tab0 ⟨1, 1, 1, mpb⟩ ⟨g, List.replicate g.blocks.toNat ent0, List.replicate g.all.toNat 0⟩ z g.parts.toNat) (fun z => by simp [secsOf]) 3 (by omega)
                  have hwr := aWrite_calls own5 ab mb pb db plb A 5 wrTag_five.1 ⟨1, 1, 1, mpb⟩ ⟨g, List.replicate g.blocks.toNat ent0, List.replicate g.all.toNat 0⟩ w5 hA5 hset5 hm5 rfl (map0_fits _).2 (map0_fits _).1 HX3.out.2.mg.symm _ rfl q3 q2.flush
                  rw [q1] at hwr
                  have hwr2 : Calls Tryz.prog 18 #[.pointer (some ⟨ab, 0, none⟩), .agg (snapC ⟨1, 1, 1, mpb⟩)] w5 fun e w' => e = .returned (.tuple #[.int .i64 (A.wants 3 : Nat), .int .i64 (if A.wants 3 < 2 then 40 else 0)]) ∧ Keeps (fun _ => False) w w' := hwr.mono fun e w' ⟨he, own6, _, hs6, _⟩ => ⟨he, (h5.trans (hs6.mono fun t => wr_any)).keeps.mono fun k _ h => absurd rfl h⟩
                  have HY := hid hwr2
                  generalize A.wants 3 = W3 at *
                  clear hwr hwr2 hm5 hs5 hset5 hA5 hp5 h5 q1 q2 q3 t5
                  simp only [snapC] at HY
                  by_cases c2 : W3 < 2
                  · have c2' : decide ((2 : Int) ≤ (W3 : Int)) = false := by simp; omega
                    simp only [if_pos c2] at HY
                    go_wp2_with fail
                    refine Calls.mono HY.out ?_
                    rintro e w6 ⟨rfl, hk6⟩
                    have HK := hid hk6
                    clear hk6
                    go_wp2_with fail
                    go_ret
                    exact ⟨rfl, HK.out⟩
                  · have c2' : decide ((2 : Int) ≤ (W3 : Int)) = true := by simp; omega
                    simp only [if_neg c2] at HY
                    go_wp2_with fail
                    refine Calls.mono HY.out ?_
                    rintro e w6 ⟨rfl, hk6⟩
                    have HK := hid hk6
                    clear hk6
                    go_wp2_with fail
                    go_ret
                    exact ⟨rfl, HK.out⟩
end Go.Rv
