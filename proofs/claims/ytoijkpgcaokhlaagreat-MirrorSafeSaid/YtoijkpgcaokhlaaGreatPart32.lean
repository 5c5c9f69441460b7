/- Trims: a trim is placed, and isn't read as a block: plain. -/
import Derived.Test.YtoijkpgcaokhlaaGreatPart30
set_option linter.unusedVariables false
set_option linter.unusedSimpArgs false
namespace Go.Rv
open Go Go.RowKit Go.Proofs
attribute [local irreducible] tab0 tabV

theorem PoolS.sum_two (p : PoolS) {a b : Nat} (hab : a ≠ b) : ∀ n, a < n → b < n → (p.L a).length + (p.L b).length ≤ p.sumTo n
  | 0, h, _ => by omega
  | n + 1, ha, hb => by
    rw [PoolS.sumTo]
    by_cases e1 : a = n
    · have h1 : ∀ k, b < k → (p.L b).length ≤ p.sumTo k := fun k => by
        induction k with
        | zero => intro h; omega
        | succ k ih =>
          intro h
          rw [PoolS.sumTo]
          by_cases e : b = k
          · subst e; omega
          · have := ih (by omega); omega
      have := h1 n (by omega)
      subst e1; omega
    · by_cases e2 : b = n
      · have h1 : ∀ k, a < k → (p.L a).length ≤ p.sumTo k := fun k => by
          induction k with
          | zero => intro h; omega
          | succ k ih =>
            intro h
            rw [PoolS.sumTo]
            by_cases e : a = k
            · subst e; omega
            · have := ih (by omega); omega
        have := h1 n (by omega)
        subst e2; omega
      · have := PoolS.sum_two p hab n (by omega) (by omega)
        omega
/-- two domains have free zones: there is a pair. -/
theorem PoolS.pairs_two {p : PoolS} {i j : Nat} (hij : i ≠ j) (hi : i < p.nd) (hj : j < p.nd) (h1 : p.L i ≠ []) (h2 : p.L j ≠ []) : p.pairs ≠ 0 := by
  have l1 : 1 ≤ (p.L i).length := by cases h : p.L i with | nil => exact absurd h h1 | cons x l => simp
  have l2 : 1 ≤ (p.L j).length := by cases h : p.L j with | nil => exact absurd h h2 | cons x l => simp
  obtain ⟨m, hm, -, -⟩ := p.best_max (-1) p.nd i hi (by omega)
  have hmn : m < p.nd := by have := p.best_lt (-1) p.nd; omega
  have hc : p.count (m : Int) = (p.L m).length := by unfold PoolS.count; rw [if_neg (by omega)]; simp
  have hs2 := p.sum_two hij p.nd hi hj
  have ho : (p.L m).length + 1 ≤ p.sumTo p.nd := by
    by_cases e : m = i
    · have := p.sum_two (a := m) (b := j) (by omega) p.nd hmn hj; omega
    · have := p.sum_two (a := m) (b := i) (by omega) p.nd hmn hi; omega
  unfold PoolS.pairs
  rw [hm, hc]
  omega

def trimE (seq block many : Int) : EnS := ⟨2, seq, 1, block, many, 0, zero32⟩
/-- the mirror with two zones free. -/
def trimM (g : GeomS) : MirS := { mir0 g with p := (((mir0 g).p.give 0).1.give g.zones).1 }
theorem trimM_run {g : GeomS} (h : g.right = true) : (trimM g).Run g := by
  have h0 := mir0_run h
  have hE : ∀ j, j < (mir0 g).d.d.nz → ((mir0 g).d.d.z j).state = 0 ∧ ((mir0 g).d.d.z j).l = [] := fun j _ => ⟨rfl, rfl⟩
  exact (h0.give rfl hE 0).give rfl hE g.zones
theorem trimM_pool {g : GeomS} (h : g.right = true) : (trimM g).p.L 0 = [0] ∧ (trimM g).p.L 1 = [g.zones] ∧ ∀ d, d ≠ 0 → d ≠ 1 → (trimM g).p.L d = [] := by
  have hs := g.right_small h
  have hz := g.right_zones h
  have hd := hs.d
  have hall : g.all = g.domains * g.zones := rfl
  have h3 : 3 * g.zones ≤ g.domains * g.zones := Int.mul_le_mul_of_nonneg_right (by omega) (by omega)
  have d0 : g.domain 0 = 0 := by unfold GeomS.domain; rw [if_neg (by omega)]; simp
  have d1 : g.domain g.zones = 1 := by unfold GeomS.domain; rw [if_neg (by omega)]; exact Int.ediv_self (by omega)
  have g1 : ((mir0 g).p.give 0).1 = (mir0 g).p.set 0 [0] := by
    unfold PoolS.give
    have e1 : (mir0 g).p.g = g := rfl
    have e2 : (mir0 g).p.has 0 = false := by
      have hok : (mir0 g).p.Ok := PoolS.Ok.new h
      rw [hok.has_dom (d := 0) (by rw [e1]; exact d0) (by have := hok.nd; omega)]
      simp [mir0]
    rw [e1, d0, if_neg (by omega), e2]
    rfl
  have hok1 : ((mir0 g).p.set 0 [0]).Ok := by rw [← g1]; exact (PoolS.Ok.new h : (mir0 g).p.Ok).give 0
  have g2 : (((mir0 g).p.set 0 [0]).give g.zones).1 = ((mir0 g).p.set 0 [0]).set 1 [g.zones] := by
    unfold PoolS.give
    have e1 : ((mir0 g).p.set 0 [0]).g = g := rfl
    have e2 : ((mir0 g).p.set 0 [0]).has g.zones = false := by
      rw [hok1.has_dom (d := 1) (by rw [e1]; exact d1) (by have := hok1.nd; omega)]
      simp [mir0, PoolS.set]
    rw [e1, d1, if_neg (by omega), e2]
    rfl
  have hp : (trimM g).p = ((mir0 g).p.set 0 [0]).set 1 [g.zones] := by unfold trimM; rw [g1, g2]
  rw [hp]
  refine ⟨rfl, rfl, fun d h0 h1 => ?_⟩
  simp [PoolS.set, h0, h1, mir0]
/-- a trim is placed in zones 0 and g.zones, in either order; zone 0 is open then. -/
theorem trim_place {g : GeomS} (h : g.right = true) : (trimM g).p.pairs ≠ 0 ∧ ∀ (M' : MirS) (a b u : Nat), M'.Seg a b u → u = 0 → M'.Run g → (a : Int) = (trimM g).p.pair.2.1 → (b : Int) = (trimM g).p.pair.2.2.1 → ∀ e epoch seq, ((M'.plc e epoch seq a b u).d.d.state 0) = 1 := by
  obtain ⟨p0, p1, p2⟩ := trimM_pool h
  have hrun := trimM_run h
  have hnd := hrun.pok.nd
  have hpr : (trimM g).p.pairs ≠ 0 := PoolS.pairs_two (i := 0) (j := 1) (by omega) (by omega) (by omega) (by rw [p0]; simp) (by rw [p1]; simp)
  refine ⟨hpr, fun M' a b u hs hu hr ha hb e epoch seq => ?_⟩
  obtain ⟨da, db, x, y, l, m, hda, hdb, hab, hla, hlb, hpair⟩ := pair_up hrun.pok hpr
  rw [hpair] at ha hb
  have hx : ∀ d z l', (trimM g).p.L d = z :: l' → (d = 0 ∧ z = 0) ∨ (d = 1 ∧ z = g.zones) := fun d z l' hd => by
    by_cases e0 : d = 0
    · subst e0; rw [p0] at hd; exact .inl ⟨rfl, by simpa using (List.cons.inj hd).1.symm⟩
    · by_cases e1 : d = 1
      · subst e1; rw [p1] at hd; exact .inr ⟨rfl, by simpa using (List.cons.inj hd).1.symm⟩
      · rw [p2 d e0 e1] at hd; cases hd
  have hab0 : a = 0 ∨ b = 0 := by
    rcases hx da x l hla with ⟨-, hx0⟩ | ⟨h1, -⟩
    · exact .inl (by simp only [] at ha; omega)
    · rcases hx db y m hlb with ⟨-, hy0⟩ | ⟨h2, -⟩
      · exact .inr (by simp only [] at hb; omega)
      · omega
  have hseg := plc_seg hs (by rw [hr.size]; have := hr.small.s; omega) e epoch seq
  have hone : segSt (u + 1) (M'.plc e epoch seq a b u).d.d.size = 1 := by
    have hsz : (M'.plc e epoch seq a b u).d.d.size = g.size := hr.size
    have := hr.small.s
    unfold segSt
    rw [hsz, if_neg (by omega), if_neg (by omega)]
  have hst : ((M'.plc e epoch seq a b u).d.d.z 0).state = 1 := by
    rcases hab0 with e0 | e0
    · subst e0; rw [hseg.sa]; exact hone
    · subst e0; rw [hseg.sb]; exact hone
  have hin : 0 < (M'.plc e epoch seq a b u).d.d.nz := by
    rcases hab0 with e0 | e0
    · subst e0; exact hseg.la
    · subst e0; exact hseg.lb
  have := DevS.state_in (D := (M'.plc e epoch seq a b u).d.d) (z := 0) hin
  exact (this.trans hst)
/-- what is read of it. -/
theorem trim_read {g : GeomS} {M : MirS} (h : M.Run g) {a b u : Nat} (hs : M.Seg a b u) (hu : (u : Int) < g.size) (hd : g.domain a ≠ g.domain b) {seq block many : Int} (hf : (trimE seq block many).frames 0 0 1 seq = true) :
    ∃ D', (M.plc (trimE seq block many) 1 seq a b u).rd ⟨1, a, b, u, seq, crcSum tab0 zero32⟩ = ({ M.plc (trimE seq block many) 1 seq a b u with d := D' }, zero32, if seq < 1 then 10 else 41) ∧ D'.d.z = (M.plc (trimE seq block many) 1 seq a b u).d.d.z ∧ D'.d.nz = (M.plc (trimE seq block many) 1 seq a b u).d.d.nz := by
  obtain ⟨fa, fb⟩ := h.frames hs hu hf
  have hr := h.plc hs hu (trimE seq block many) 1 seq
  have hmg : (M.plc (trimE seq block many) 1 seq a b u).g = g := hr.mg
  obtain ⟨-, fr, -⟩ := (EnS.frames_iff _ _ _ _ _).1 hf
  obtain ⟨-, -, -, -, fs⟩ := (FrmS.right_iff _).1 fr
  have fs2 : seq ≤ 281474976710655 := fs.2
  by_cases k : seq < 1
  · refine ⟨(M.plc (trimE seq block many) 1 seq a b u).d, ?_, rfl, rfl⟩
    unfold MirS.rd
    have hl : (M.plc (trimE seq block many) 1 seq a b u).lives ⟨1, a, b, u, seq, crcSum tab0 zero32⟩ = false := by
      unfold MirS.lives EntS.live
      have : decide ((1 : Int) ≤ seq) = false := by simp; omega
      simp only [this, Bool.and_false, Bool.false_and]
    rw [if_pos hl, if_pos k]
  · obtain ⟨l1, l2⟩ := h.lives hs hu hd (seq := seq) (by omega) fs2 zero32
    have hl : (M.plc (trimE seq block many) 1 seq a b u).lives ⟨1, a, b, u, seq, crcSum tab0 zero32⟩ = true := by
      unfold MirS.lives
      rw [l1, hmg, l2]; rfl
    have := rd_trim hr.calm hl (plc_rec hs (e := trimE seq block many) rfl fa fb) rfl
    refine ⟨(M.plc (trimE seq block many) 1 seq a b u).d.tick.tick, ?_, rfl, rfl⟩
    rw [if_neg k]
    exact this
end Go.Rv

/- Trims: the law's way. -/
namespace Go.Rv
open Go Go.RowKit Go.Proofs
attribute [local irreducible] wpQuiet tab0 tabV
attribute [local go_sem ↓] ld_M14 st_M14 al_M14 ld_Ent st_Ent al_Ent ld_Block st_Block al_Block bd_EntryT ld_Geom st_Geom al_Geom
attribute [local go_sem] cellsAt_new0 cellsAt_lt cellsAt_drew size_bytesV cellsFree_new0 size_z_M14 size_z_Block size_z_Ent

set_option maxHeartbeats 600000 in
set_option maxRecDepth 100000 in
theorem trims_no (g : GeomS) (seq block many : Int) (w : World) (h : g.right = false ∨ 64 < g.all) : Calls Tryz.prog 6 #[geomV g, .int .i64 seq, .int .i64 block, .int .i64 many] w fun e w' => e = .returned (.bool true) ∧ Keeps (fun _ => False) w w' := by
  have hst := fun X => started14_no g h X
  obtain ⟨GG, hGG⟩ : ∃ GG, geomC g = GG := ⟨_, rfl⟩
  have hgs : GG.size = 6 := by rw [← hGG]; rfl
  have hgv : geomV g = .agg GG := by rw [← hGG]; rfl
  rw [hgv] at hst ⊢
  have HST := hid hst
  have ez : allOne z_M14 = true := rfl
  clear h hst hGG hgv
  go_enter Tryz.func6, Tryz.ntmps6
  go_wp2_with fail
  refine Calls.mono (anchor14_calls _) ?_
  rintro e w1 ⟨rfl, hk1⟩
  have hb := hk1.heap (heap_new w (.cells GG 23)) id
  have e0 := cellsAt_full (n := 6) hb hgs
  have HK := hid (Keeps.trans (show Keeps (fun _ => False) w _ from (by repeat (first | exact Keeps.refl _ _ | refine Keeps.alloc ?_ _ | refine Keeps.drew ?_ | refine Keeps.drewN ?_ _ | refine Keeps.trans ?_ (by assumption)))) hk1)
  clear hk1 hb
  go_wp2_with fail
  refine Calls.mono (HST.out _) ?_
  rintro e w2 ⟨rfl, hk2⟩
  have HK2 := hid (HK.out.trans hk2)
  clear hk2 e0
  go_wp2_with fail
  go_ret
  refine ⟨rfl, ?_⟩
  exact keeps_put0 (o := 0) (HK2.out.alloc (.cells z_M14 42)) (fun h => absurd h (Nat.not_lt.2 HK2.out.size)) z_M14

set_option maxHeartbeats 800000 in
set_option maxRecDepth 100000 in
theorem trims_yes (g : GeomS) (seq block many : Int) (w : World) (hg : g.right = true) (ha : g.all ≤ 64) : Calls Tryz.prog 6 #[geomV g, .int .i64 seq, .int .i64 block, .int .i64 many] w fun e w' => e = .returned (.bool true) ∧ Keeps (fun _ => False) w w' := by
  have hst := fun X => started14_yes g hg ha (fun _ => 0) X (fun _ _ => rfl)
  obtain ⟨GG, hGG⟩ : ∃ GG, geomC g = GG := ⟨_, rfl⟩
  have hgs : GG.size = 6 := by rw [← hGG]; rfl
  have hg1 : GG[1]? = some (.int .i64 g.zones) := by rw [← hGG]; rfl
  have hgv : geomV g = .agg GG := by rw [← hGG]; rfl
  rw [hgv] at hst ⊢
  have HST := hid hst
  have HG := hid (And.intro hg hg1)
  clear hg ha hst hGG hgv hg1
  go_enter Tryz.func6, Tryz.ntmps6
  go_wp2_with fail
  refine Calls.mono (anchor14_calls _) ?_
  rintro e w1 ⟨rfl, hk1⟩
  have hb := hk1.heap (heap_new w (.cells GG 23)) id
  have e0 := cellsAt_full (n := 6) hb hgs
  have HK := hid (And.intro (Keeps.trans (show Keeps (fun _ => False) w _ from (by repeat (first | exact Keeps.refl _ _ | refine Keeps.alloc ?_ _ | refine Keeps.drew ?_ | refine Keeps.drewN ?_ _ | refine Keeps.trans ?_ (by assumption)))) hk1) hb)
  clear hk1 hb
  go_wp2_with fail
  refine Calls.mono (HST.out _) ?_
  rintro e w2 ⟨mb, pb, db, plb, own2, ys, rfl, hy1, hy2, hM, hs, hset⟩
  have hst2 : Step anyTag w (fun _ => 0) w2 own2 := (Step.kept (A := anyTag) (HK.out.1.mono fun _ _ h => h.elim) (fun _ _ => rfl)).1.trans hs
  have hb2 := hs.heap HK.out.2 (fun h => h rfl)
  have ho2 : own2 w.heap.size = 0 := hs.agree _ (lt_of HK.out.2)
  have hk3 := keeps_put0 (o := 0) ((Keeps.refl (fun _ => False) w2).alloc (.cells z_M14 42)) (fun h => absurd h (Nat.lt_irrefl _)) ys
  obtain ⟨w3, hw3⟩ : ∃ w3, putCells (w2.alloc (.cells z_M14 42)) ⟨w2.heap.size, 0, none⟩ ys = w3 := ⟨_, rfl⟩
  rw [hw3] at hk3
  have H3 := hid (And.intro (hM.still hk3) (And.intro (hst2.trans (Step.kept (A := anyTag) (hk3.mono fun _ _ h => h.elim) hset).1) (And.intro (hset.keeps hk3) (And.intro (hk3.heap hb2 id) ho2))))
  clear hM hs hset hst2 hb2 ho2 hk3 e0
  go_wp2_with fail
  refine Calls.mono (mpool_calls own2 mb pb db plb _ w3 H3.out.1) ?_
  rintro e w4 ⟨rfl, rfl⟩
  go_wp2_with fail
  refine Calls.mono (give_calls own2 plb (mir0 g).p 0 w3 H3.out.1.pool H3.out.1.ok.pool H3.out.2.2.1) ?_
  rintro e w4 ⟨rfl, hp4, hk4⟩
  have s4 := Step.kept (A := poolTag) hk4 H3.out.2.2.1
  have hM4 := H3.out.1.turnp s4.1 hp4 (H3.out.1.ok.pool.give 0) (((mir0 g).p.give_g 0).trans H3.out.1.ok.pg)
  have hb4 := s4.1.heap H3.out.2.2.2.1 (by rw [H3.out.2.2.2.2]; unfold poolTag; omega)
  have H4 := hid (And.intro hM4 (And.intro (H3.out.2.1.trans (s4.1.mono (B := anyTag) fun t h => by unfold poolTag anyTag at *; omega)) (And.intro s4.2 hb4)))
  clear hp4 hk4 s4 hM4 hb4 hw3
  have ts1 : w4.drew.cell? ⟨w.heap.size, 1, none⟩ = some (.int .i64 g.zones) := (cell_of H4.out.2.2.2 1).trans HG.out.2
  have HS : Hid (∀ X, Keeps (fun _ => False) w4 X → X.cell? ⟨w.heap.size, 1, none⟩ = some (.int .i64 g.zones)) := hid fun X hX => (cell_of (hX.heap H4.out.2.2.2 id) 1).trans HG.out.2
  go_wp2_with fail
  go_region_held3 (fun X => X.cell? ⟨w.heap.size, 1, none⟩ = some (.int .i64 g.zones)) (assumption)
    (first | (go_at_call 14; refine Calls.mono (mpool_calls own2 mb pb db plb _ _ (H4.out.1.still ((Keeps.refl _ _).drew))) ?_; rintro e w5 ⟨rfl, rfl⟩)
           | (go_at_call 15; refine Calls.mono (give_calls own2 plb _ g.zones _ (H4.out.1.still ((Keeps.refl _ _).drew)).pool H4.out.1.ok.pool (H4.out.2.2.1.keeps ((Keeps.refl (fun _ => False) _).drew))) ?_; rintro e w6 ⟨rfl, hp6, hk6⟩; have s6 := Step.kept (A := poolTag) hk6 (H4.out.2.2.1.keeps ((Keeps.refl (fun _ => False) _).drew)); have hb6 := s6.1.heap (heap_d H4.out.2.2.2) (by rw [H3.out.2.2.2.2]; unfold poolTag; omega); have ts2 := (cell_of hb6 1).trans HG.out.2))
  have hM6 : MirAt w6 own2 mb pb db plb (trimM g) := (H4.out.1.still ((Keeps.refl _ _).drew)).turnp s6.1 hp6 (H4.out.1.ok.pool.give g.zones) ((PoolS.give_g _ g.zones).trans H4.out.1.ok.pg)
  have hst6 : Step anyTag w (fun _ => 0) w6 own2 := (H4.out.2.1.trans (Step.kept (A := anyTag) (w' := w4.drew) ((Keeps.refl (fun _ => False) w4).drew.mono fun _ _ h => h.elim) H4.out.2.2.1).1).trans (s6.1.mono (B := anyTag) fun t h => by unfold poolTag anyTag at *; omega)
  have H6 := hid (And.intro hM6 (And.intro hst6 s6.2))
  clear hp6 hk6 s6 hM6 hst6 hb6 ts1 ts2
  have ex0 : (entC ent0).size = 6 := rfl
  cases hf : (trimE seq block many).frames 0 0 1 seq with
  | false =>
    have hpl := fun X => mplace_form mb (trimE seq block many) rfl 1 seq (by unfold EnS.frameR; rw [hf]; simp) X
    have hce : enC (trimE seq block many) = enC ⟨2, seq, 1, block, many, 0, zero32⟩ := rfl
    rw [hce] at hpl
    have ez : allOne (entC ent0) = true := rfl
    obtain ⟨EC, hEC⟩ : ∃ EC, entC ent0 = EC := ⟨_, rfl⟩
    rw [hEC] at hpl ez ex0
    have HPL := hid hpl
    clear hf hpl hce hEC
    go_wp2_with fail
    refine Calls.mono (HPL.out _) ?_
    rintro e w7 ⟨rfl, hk7⟩
    have HK7 := hid hk7
    clear hk7
    go_wp2_with fail
    go_ret
    refine ⟨rfl, ?_⟩
    have hkw : Keeps (fun _ => False) w w7 := (H6.out.2.1.keeps.mono fun k _ h => absurd rfl h : Keeps (fun _ => False) w w6).trans HK7.out
    exact keeps_put0 (o := 0) (hkw.alloc (.cells z_Ent 83)) (fun h => absurd h (Nat.not_lt.2 hkw.size)) EC
  | true =>
    obtain ⟨hpr, hplc⟩ := trim_place HG.out.1
    obtain ⟨M', a, b, u, ⟨hr, hrun, hseg, hu, hd, -, -, hk2⟩, hpl⟩ := mplace_run own2 mb pb db plb (trimM_run HG.out.1) (trimE seq block many) rfl 1 seq hf (.inr hpr)
    obtain ⟨ha, hb, hu0, -⟩ := hk2 (fun h => h.1 rfl)
    have hst := hplc M' a b u hseg hu0 hrun ha hb (trimE seq block many) 1 seq
    obtain ⟨D', hrd, hdz, hdn⟩ := trim_read hrun hseg hu hd hf
    have hce : enC (trimE seq block many) = enC ⟨2, seq, 1, block, many, 0, zero32⟩ := rfl
    have hcb : crcSum tab0 (trimE seq block many).bytes = crcSum tab0 zero32 := rfl
    rw [hce, hcb] at hpl
    obtain ⟨MP, hMP⟩ : ∃ MP, M'.plc (trimE seq block many) 1 seq a b u = MP := ⟨_, rfl⟩
    rw [hMP] at hpl hrd hst hdz hdn
    obtain ⟨X, hX⟩ : ∃ X : EntS, ⟨1, a, b, u, seq, crcSum tab0 zero32⟩ = X := ⟨_, rfl⟩
    rw [hX] at hpl hrd
    obtain ⟨MR, hMR⟩ : ∃ MR, ({ MP with d := D' } : MirS) = MR := ⟨_, rfl⟩
    rw [hMR] at hrd
    have hs0 : MR.d.d.state 0 = 1 := by
      rw [← hMR]
      rw [← hst]
      unfold DevS.state DevS.has
      simp only [hdz, hdn]
    have ez : allOne (entC X) = true := rfl
    have ex : (entC X).size = 6 := rfl
    have ez0 := allOne_bytes zero32
    have ezz : (bytesV zero32).size = 32 := rfl
    obtain ⟨EC, hEC⟩ : ∃ EC, entC X = EC := ⟨_, rfl⟩
    rw [hEC] at hpl ez ex
    have HPL := hid hpl
    have HRD := hid (And.intro hrd hs0)
    have HEC := hid hEC
    clear hf hpr hplc hr hrun hseg hu hd hk2 ha hb hu0 hst hrd hdz hdn hce hcb hMP hX hMR hs0 hpl hEC
    go_wp2_with fail
    refine Calls.mono (HPL.out _ H6.out.1 H6.out.2.2) ?_
    rintro e w7 ⟨rfl, own7, hM7, hs7, hset7⟩
    have hk8 := keeps_put0 (o := 0) ((Keeps.refl (fun _ => False) w7).alloc (.cells z_Ent 83)) (fun h => absurd h (Nat.lt_irrefl _)) EC
    have hb8 := putCells_at (heap_new w7 (.cells z_Ent 83)) (show z_Ent.size = EC.size by rw [ex]; rfl)
    have hst8 := (H6.out.2.1.trans (hs7.mono (B := anyTag) fun t h => by unfold mgTag drvTag devTag poolTag anyTag at *; omega)).trans (Step.kept (A := anyTag) (hk8.mono fun _ _ h => h.elim) hset7).1
    have hld := cellsAt_full (n := 6) hb8 ex
    have H8 := hid (And.intro (hM7.still hk8) (And.intro hst8 (hset7.keeps hk8)))
    obtain ⟨w8, hw8⟩ : ∃ w8, putCells (w7.alloc (.cells z_Ent 83)) ⟨w7.heap.size, 0, none⟩ EC = w8 := ⟨_, rfl⟩
    rw [hw8] at H8 hld
    clear hM7 hs7 hset7 hk8 hb8 hst8
    go_wp2_with fail
    rw [← HEC.out]
    refine Calls.mono (mread_calls own7 mb pb db plb MP X w8 H8.out.1 H8.out.2.2) ?_
    rw [HRD.out.1]
    rintro e w9 ⟨rfl, own9, hM9, hs9, hset9⟩
    have hk10 := keeps_put0 (o := 0) ((Keeps.refl (fun _ => False) w9).alloc (.cells z_Block 87)) (fun h => absurd h (Nat.lt_irrefl _)) (bytesV zero32)
    have hst10 := (H8.out.2.1.trans (hs9.mono (B := anyTag) fun t h => by unfold mgTag drvTag devTag poolTag anyTag at *; omega)).trans (Step.kept (A := anyTag) (hk10.mono fun _ _ h => h.elim) hset9).1
    have H10 := hid (And.intro (hM9.still hk10) (And.intro hst10 (hset9.keeps hk10)))
    obtain ⟨w10, hw10⟩ : ∃ w10, putCells (w9.alloc (.cells z_Block 87)) ⟨w9.heap.size, 0, none⟩ (bytesV zero32) = w10 := ⟨_, rfl⟩
    rw [hw10] at H10
    have hds := dstate_calls own9 db MR.d.d 0 w10 H10.out.1.drive.dev
    rw [HRD.out.2] at hds
    have HDS := hid hds
    clear hM9 hs9 hset9 hk10 hst10 hld hw8 hds
    by_cases k : seq < 1
    · have dk : decide (seq < 1) = true := by simpa using k
      have e1 : (if seq < 1 then 10 else 41 : Int) = 10 := by rw [if_pos k]
      simp only [e1]
      clear e1 k
      go_wp2_with fail
      refine Calls.mono (mdrive_calls own9 mb pb db plb _ w10 H10.out.1) ?_
      rintro e w11 ⟨rfl, rfl⟩
      go_wp2_with fail
      refine Calls.mono (pdevice_calls own9 pb db _ w10 H10.out.1.drive) ?_
      rintro e w11 ⟨rfl, rfl⟩
      go_wp2_with fail
      refine Calls.mono HDS.out ?_
      rintro e w11 ⟨rfl, rfl⟩
      go_wp2_with fail
      go_ret
      exact ⟨rfl, H10.out.2.1.keeps.mono fun k _ h => absurd rfl h⟩
    · have e1 : (if seq < 1 then 10 else 41 : Int) = 41 := by rw [if_neg k]
      simp only [e1]
      clear e1 k
      go_wp2_with fail
      refine Calls.mono (mdrive_calls own9 mb pb db plb _ w10 H10.out.1) ?_
      rintro e w11 ⟨rfl, rfl⟩
      go_wp2_with fail
      refine Calls.mono (pdevice_calls own9 pb db _ w10 H10.out.1.drive) ?_
      rintro e w11 ⟨rfl, rfl⟩
      go_wp2_with fail
      refine Calls.mono HDS.out ?_
      rintro e w11 ⟨rfl, rfl⟩
      go_wp2_with fail
      go_ret
      exact ⟨rfl, H10.out.2.1.keeps.mono fun k _ h => absurd rfl h⟩
end Go.Rv
