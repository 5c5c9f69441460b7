/- What was placed is safe behind a crash, where its segment was left: plain. -/
import Derived.Test.YtoijkpgcaokhlaaGreatPart32
import Derived.Test.YtoijkpgcaokhlaaGreatPart33
import Derived.Test.YtoijkpgcaokhlaaGreatPart26
set_option linter.unusedVariables false
set_option linter.unusedSimpArgs false
namespace Go.Rv
open Go Go.RowKit Go.Proofs
attribute [local irreducible] tab0 tabV

/-- the block that round i writes. -/
def rndB (i : Nat) : List UInt8 := List.replicate 32 (UInt8.ofNat i)
def rndE (i : Nat) : EnS := ⟨3, (i : Int) + 1, 1, 0, 0, 0, rndB i⟩
theorem rndB_len (i : Nat) : (rndB i).length = 32 := by simp [rndB]
theorem rndE_frames (i : Nat) (h : i ≤ 1000) : (rndE i).frames 0 0 1 ((i : Int) + 1) = true := by
  refine (EnS.frames_iff _ _ _ _ _).2 ⟨(EnS.right_iff _).2 ⟨?_, ?_, ?_, ?_⟩, (FrmS.right_iff _).2 ⟨?_, ?_, ?_, ?_, ?_⟩, ?_, ?_⟩
  · show 0 ≤ (i : Int) + 1 ∧ (i : Int) + 1 ≤ 281474976710655; omega
  · show (0 : Int) ≤ 0 ∧ (0 : Int) ≤ 255; omega
  · show (0 : Int) ≤ 0 ∧ (0 : Int) ≤ 65535; omega
  · simp [EnS.counts, rndE]
  · show (1 : Int) ≤ 3 ∧ (3 : Int) ≤ 5; omega
  · show (0 : Int) ≤ 0 ∧ (0 : Int) ≤ 65535; omega
  · show (0 : Int) ≤ 0 ∧ (0 : Int) ≤ 65535; omega
  · show (1 : Int) ≤ 1 ∧ (1 : Int) ≤ 4294967295; omega
  · show 0 ≤ (i : Int) + 1 ∧ (i : Int) + 1 ≤ 281474976710655; omega
  · show (i : Int) + 1 ≤ (i : Int) + 1; omega
  · show (i : Int) + 1 - 1 < (i : Int) + 1; omega

/-- an entry that was placed as number k, in the open segment or out of it. -/
structure Held (M : MirS) (k : Nat) (x : EntS) : Prop where
  ex : ∃ a b o : Nat, RecAt M.d x (rndE k) 1 a b o
  seq : x.seq = (k : Int) + 1
  live : x.state = 1 ∧ x.live M.g = true
  out : (x.zone = M.a ∧ x.mate = M.b) ∨ (x.zone ≠ M.a ∧ x.zone ≠ M.b ∧ x.mate ≠ M.a ∧ x.mate ≠ M.b)

theorem RecAt.same {D D' : DriveS} {x : EntS} {e : EnS} {ep : Int} {a b o : Nat} (h : RecAt D x e ep a b o) (hn : D'.d.nz = D.d.nz) (hz : ∀ j, (D'.d.z j).l = (D.d.z j).l ∧ (D'.d.z j).state = (D.d.z j).state) : RecAt D' x e ep a b o :=
  ⟨h.za, h.zb, h.off, by rw [hn]; exact h.la, by rw [hn]; exact h.lb, by rw [(hz a).2]; exact h.sa, by rw [(hz b).2]; exact h.sb, h.fa, h.fb, by rw [(hz a).1]; exact h.ia, by rw [(hz b).1]; exact h.ib, h.len, h.sum⟩

/-- from one round to the next: the entry is placed. -/
theorem held_place {g : GeomS} {M M' : MirS} {i a b u : Nat} (hi : i ≤ 1000) (h : M.Run g) (hr' : M'.Run g) (hs : M'.Seg a b u) (hu : (u : Int) < g.size) (hd : g.domain a ≠ g.domain b) (hl : ∀ j, (M'.d.d.z j).l = (M.d.d.z j).l ∧ (M'.d.d.z j).state = (M.d.d.z j).state)
    (k1 : (M.a ≠ -1 ∧ M.used < g.size) → M' = M) (k2 : ¬ (M.a ≠ -1 ∧ M.used < g.size) → (a : Int) = M.p.pair.2.1 ∧ (b : Int) = M.p.pair.2.2.1 ∧ u = 0 ∧ M'.p = M.p.pair.1) :
    (∀ k x, Held M k x → Held (M'.plc (rndE i) 1 ((i : Int) + 1) a b u) k x) ∧ Held (M'.plc (rndE i) 1 ((i : Int) + 1) a b u) i ⟨1, a, b, u, (i : Int) + 1, crcSum tab0 (rndB i)⟩ := by
  obtain ⟨fa, fb⟩ := hr'.frames hs hu (rndE_frames i hi)
  have hrp := hr'.plc hs hu (rndE i) 1 ((i : Int) + 1)
  have hma : (M'.plc (rndE i) 1 ((i : Int) + 1) a b u).a = a := hs.ea
  have hmb : (M'.plc (rndE i) 1 ((i : Int) + 1) a b u).b = b := hs.eb
  obtain ⟨l1, l2⟩ := hr'.lives hs hu hd (seq := (i : Int) + 1) (by omega) (by omega) (rndB i)
  refine ⟨fun k x hx => ?_, ⟨⟨a, b, u, plc_rec hs (rndB_len i) fa fb⟩, rfl, ⟨rfl, by rw [hrp.mg]; exact l2⟩, .inl ⟨hma.symm, hmb.symm⟩⟩⟩
  obtain ⟨a', b', o, hrec⟩ := hx.ex
  have hrec' : RecAt M'.d x (rndE k) 1 a' b' o := hrec.same (by rw [hr'.nz, h.nz]) hl
  refine ⟨⟨a', b', o, hrec'.plc hs (rndE i) 1 ((i : Int) + 1)⟩, hx.seq, ⟨hx.live.1, by rw [hrp.mg, ← h.mg]; exact hx.live.2⟩, ?_⟩
  rw [hma, hmb]
  by_cases k : M.a ≠ -1 ∧ M.used < g.size
  · have e := k1 k
    subst e
    have := hx.out
    rw [hs.ea, hs.eb] at this
    exact this
  · obtain ⟨e1, e2, e3, -⟩ := k2 k
    subst e3
    refine .inr ?_
    have za := hs.za
    have zb := hs.zb
    have la : o < (M'.d.d.z a').l.length := (List.getElem?_eq_some_iff.1 hrec'.ia).1
    have lb : o < (M'.d.d.z b').l.length := (List.getElem?_eq_some_iff.1 hrec'.ib).1
    have ea := hrec'.za
    have eb := hrec'.zb
    refine ⟨fun e => ?_, fun e => ?_, fun e => ?_, fun e => ?_⟩
    · have : a' = a := by omega
      subst this; omega
    · have : a' = b := by omega
      subst this; omega
    · have : b' = a := by omega
      subst this; omega
    · have : b' = b := by omega
      subst this; omega
/-- there is no room: all stays. -/
theorem held_none {M M' : MirS} (hl : ∀ j, (M'.d.d.z j).l = (M.d.d.z j).l ∧ (M'.d.d.z j).state = (M.d.d.z j).state) (hn : M'.d.d.nz = M.d.d.nz) (hg : M'.g = M.g) (ha : M'.a = M.a) (hb : M'.b = M.b) {k : Nat} {x : EntS} (h : Held M k x) : Held M' k x := by
  obtain ⟨a, b, o, hr⟩ := h.ex
  exact ⟨⟨a, b, o, hr.same hn hl⟩, h.seq, ⟨h.live.1, by rw [hg]; exact h.live.2⟩, by rw [ha, hb]; exact h.out⟩

/-- the drive crashes and is taken up again. -/
def MirS.reborn (M : MirS) (keep : List Int) : MirS := { M with d := ({ M.d with d := { M.d.d with down := true } } : DriveS).revive keep }
theorem MirS.reborn_d (M : MirS) (keep : List Int) : (M.reborn keep).d.d = { ({ M.d.d with down := true } : DevS).reviveTo keep M.d.d.nz with down := false } := by
  have e : (M.reborn keep).d.d = ({ M.d.d with down := true } : DevS).revive keep := rfl
  rw [e]
  unfold DevS.revive
  rw [if_neg (by simp)]
theorem ZoneS.crash_safe {size : Int} {Z : ZoneS} (h : Z.safe = Z.l.length) (k : Int) : (Z.crash size k).l = Z.l ∧ (Z.state < 3 → (Z.crash size k).state < 3) := by
  have hl : Z.left k = Z.l.length := by unfold ZoneS.left; rw [h]; omega
  constructor
  · show Z.l.take (Z.left k) = Z.l
    rw [hl, List.take_length]
  · intro hs
    unfold ZoneS.crash
    simp only []
    rw [if_neg (by omega)]
    split
    · omega
    · split <;> omega
/-- what a mirror has behind it: its zones' contents. -/
structure Behind (g : GeomS) (M : MirS) : Prop where
  calm : M.d.Calm
  mg : M.g = g
  bad : ∀ z, M.isBad z = false
theorem reborn_behind {g : GeomS} {M : MirS} (h : M.Run g) (keep : List Int) : Behind g (M.reborn keep) := by
  refine ⟨⟨h.calm.coming, ?_, ?_⟩, h.mg, h.bad⟩
  · rw [M.reborn_d keep]
  · have e : (M.reborn keep).d.d.opn = M.d.d.opn := by
      rw [M.reborn_d keep]; rfl
    rw [e]; exact h.calm.opn
theorem reborn_rec {g : GeomS} {M : MirS} (h : M.Run g) (hst : ∀ j, j < M.d.d.nz → (M.d.d.z j).state < 3) (keep : List Int) {k : Nat} {x : EntS} (hx : Held M k x) (hne : x.zone ≠ M.a) : ∃ a b o : Nat, RecAt (M.reborn keep).d x (rndE k) 1 a b o := by
  obtain ⟨a, b, o, hr⟩ := hx.ex
  obtain ⟨-, n2, n3, n4⟩ := hx.out.resolve_left (fun hh => hne hh.1)
  have key : ∀ j, j < M.d.d.nz → M.a ≠ j → M.b ≠ j → (((M.reborn keep).d.d.z j).l = (M.d.d.z j).l ∧ ((M.reborn keep).d.d.z j).state ≠ 4) := fun j hj ja jb => by
    have hz : (M.reborn keep).d.d.z j = (M.d.d.z j).crash M.d.d.size (keep.getD j 0) := by
      rw [M.reborn_d keep]
      simp only [DevS.reviveTo]
      rw [if_pos hj]
    rw [hz]
    obtain ⟨c1, c2⟩ := ZoneS.crash_safe (size := M.d.d.size) (h.safe j hj ja jb) (keep.getD j 0)
    exact ⟨c1, by have := c2 (hst j hj); omega⟩
  have hnz : (M.reborn keep).d.d.nz = M.d.d.nz := by
    rw [M.reborn_d keep]; rfl
  have ea := hr.za
  have eb := hr.zb
  obtain ⟨ka, sa⟩ := key a hr.la (by omega) (by omega)
  obtain ⟨kb, sb⟩ := key b hr.lb (by omega) (by omega)
  exact ⟨a, b, o, hr.za, hr.zb, hr.off, by rw [hnz]; exact hr.la, by rw [hnz]; exact hr.lb, sa, sb, hr.fa, hr.fb, by rw [ka]; exact hr.ia, by rw [kb]; exact hr.ib, hr.len, hr.sum⟩
theorem behind_chk {g : GeomS} {M : MirS} (h : Behind g M) {k : Nat} {x : EntS} {a b o : Nat} (hr : RecAt M.d x (rndE k) 1 a b o) (hl : x.state = 1 ∧ x.live g = true) : M.chk x = ({ M with d := M.d.tick.tick }, rndB k, 2, 0) := by
  have hlv : M.lives x = true := by unfold MirS.lives; rw [h.mg, hl.2, hl.1]; rfl
  rw [chk_good h.calm hlv hr (by show (3 : Int) ≠ 2; omega), h.bad, h.bad]
  rfl
theorem behind_tick {g : GeomS} {M : MirS} (h : Behind g M) : Behind g { M with d := M.d.tick.tick } := ⟨h.calm.tick.tick, h.mg, h.bad⟩
end Go.Rv

/- What was placed is safe behind a crash: the law's way. -/
namespace Go.Rv
open Go Go.RowKit Go.Proofs
attribute [local irreducible] wpQuiet tab0 tabV
attribute [local go_sem ↓] ld_M14 st_M14 al_M14 ld_Ent st_Ent al_Ent bs_Ent ld_Block st_Block al_Block bd_EntryF ld_Geom st_Geom al_Geom
attribute [local go_sem] cellsAt_new0 cellsAt_lt cellsAt_drew size_bytesV cellsFree_new0 size_z_M14 size_z_Block size_z_Ent

/-- between two rounds: the mirror, and what has turned since the start. -/
structure SafeIn (w : World) (mb pb db plb : Nat) (M : MirS) (own5 : Nat → Nat) (X : World) : Prop where
  at_ : MirAt X own5 mb pb db plb M
  step : Step anyTag w (fun _ => 0) X own5
  set : Settled own5 X
theorem SafeIn.still {w : World} {mb pb db plb : Nat} {M : MirS} {own5 : Nat → Nat} {X Y : World} (h : SafeIn w mb pb db plb M own5 X) (hk : Keeps (fun _ => False) X Y) : SafeIn w mb pb db plb M own5 Y :=
  ⟨h.at_.still hk, h.step.trans (Step.kept (A := anyTag) (hk.mono fun _ _ h => h.elim) h.set).1, h.set.keeps hk⟩
theorem SafeIn.turn {w : World} {mb pb db plb : Nat} {M M' : MirS} {own5 own6 : Nat → Nat} {X Y : World} {A : Nat → Prop} (h : SafeIn w mb pb db plb M own5 X) (hs : Step A X own5 Y own6) (hA : ¬ A 0) (hset : Settled own6 Y) (hm : MirAt Y own6 mb pb db plb M') : SafeIn w mb pb db plb M' own6 Y :=
  ⟨hm, h.step.trans (hs.mono fun t ht => by unfold anyTag; intro e; subst e; exact hA ht), hset⟩
theorem mirTag_eight : ∀ t, mirTag t → t ≠ 8 := fun t h => by unfold mirTag drvTag devTag poolTag at h; omega
theorem mgTag_eight : ¬ mgTag 8 := by unfold mgTag drvTag devTag poolTag; omega
/-- a mirror all whose zones are empty, and none of them in a segment. -/
structure MirS.Bare (g : GeomS) (M : MirS) : Prop where
  run : M.Run g
  a : M.a = -1
  emp : ∀ j, j < M.d.d.nz → (M.d.d.z j).state = 0 ∧ (M.d.d.z j).l = []
theorem MirS.Bare.give {g : GeomS} {M : MirS} (h : M.Bare g) (z : Int) : ({ M with p := (M.p.give z).1 } : MirS).Bare g := ⟨h.run.give h.a h.emp z, h.a, h.emp⟩
theorem mir0_bare {g : GeomS} (h : g.right = true) : (mir0 g).Bare g := ⟨mir0_run h, rfl, fun _ _ => ⟨rfl, rfl⟩⟩
/-- no zone has failed. -/
def Low (M : MirS) : Prop := ∀ j, j < M.d.d.nz → (M.d.d.z j).state < 3
theorem Low.same {M M' : MirS} (h : Low M) (hn : M'.d.d.nz = M.d.d.nz) (hl : ∀ j, (M'.d.d.z j).l = (M.d.d.z j).l ∧ (M'.d.d.z j).state = (M.d.d.z j).state) : Low M' := fun j hj => by rw [(hl j).2]; exact h j (by rw [← hn]; exact hj)
theorem Low.plc {M : MirS} (h : Low M) {a b u : Nat} (hs : M.Seg a b u) (e : EnS) (epoch seq : Int) : Low (M.plc e epoch seq a b u) := fun j hj => by
  have e1 : ((M.d.app a (e.sec a b u epoch seq)).d.z b) = M.d.d.z b := DriveS.app_ne _ _ (Ne.symm hs.ne)
  by_cases jb : j = b
  · subst jb
    have := DriveS.app_at (M.d.app a (e.sec a j u epoch seq)) j (e.sec j a u epoch seq)
    have e2 : (M.plc e epoch seq a j u).d.d.z j = _ := this
    rw [e2]; simp only []; split <;> omega
  · by_cases ja : j = a
    · subst ja
      have e2 : (M.plc e epoch seq j b u).d.d.z j = _ := (DriveS.app_ne _ _ jb).trans (DriveS.app_at M.d j (e.sec j b u epoch seq))
      rw [e2]; simp only []; split <;> omega
    · have e2 : (M.plc e epoch seq a b u).d.d.z j = M.d.d.z j := (DriveS.app_ne _ _ jb).trans (DriveS.app_ne _ _ ja)
      rw [e2]; exact h j hj
theorem like_revive (D : DriveS) (keep : List Int) : D.like (D.revive keep) := by
  unfold DriveS.like DriveS.revive DevS.revive
  simp only []
  split
  · exact ⟨rfl, rfl, rfl⟩
  · exact ⟨rfl, rfl, rfl⟩
/-- what the law's way holds when d records were placed. -/
structure SafeAt (g : GeomS) (w : World) (mb pb db plb : Nat) (M : MirS) (own5 : Nat → Nat) (L : List EntS) (lv : Value) (X : World) : Prop where
  in_ : SafeIn w mb pb db plb M own5 X
  run : M.Run g
  low : Low M
  held : ∀ k x, L[k]? = some x → Held M k x
  row : RowAt X (fun k => own5 k = 8) 83 6 lv L.length (L.flatMap entL)
theorem SafeAt.still {g : GeomS} {w : World} {mb pb db plb : Nat} {M : MirS} {own5 : Nat → Nat} {L : List EntS} {lv : Value} {X Y : World} (h : SafeAt g w mb pb db plb M own5 L lv X) (hk : Keeps (fun _ => False) X Y) : SafeAt g w mb pb db plb M own5 L lv Y :=
  ⟨h.in_.still hk, h.run, h.low, h.held, h.row.keeps hk fun _ _ => id⟩

theorem block_neq (B : List UInt8) (h : B.length = 32) (w : World) : (binOp .neq 87 (.agg (bytesV B)) (.agg (bytesV B))).run Tryz.prog w = .ok (.bool false) w := by
  have h1 := run_equalIn_bytes (P := Tryz.prog) w 9998 87 5 32 Tryz.underlying87 Tryz.underlying5 (fun w => by go_simp) B B h h
  rw [show (B == B) = true by simp] at h1
  have h2 : (Op.equalIn 10000 87 (.agg (bytesV B)) (.agg (bytesV B))).run Tryz.prog w = .ok true w := h1
  simp [binOp, Op.equal, Op.maxDepth, h2]

set_option maxHeartbeats 600000 in
set_option maxRecDepth 100000 in
theorem safe_no (g : GeomS) (o1 o2 : Option Addr) (xs keep : List Int) (n : Int) (c1 c2 : Nat) (w : World) (h : g.right = false ∨ 64 < g.all) : Calls Tryz.prog 7 #[geomV g, .slice o1 xs.length c1, .int .i64 n, .slice o2 keep.length c2] w fun e w' => e = .returned (.bool true) ∧ Keeps (fun _ => False) w w' := by
  have hst := fun X => started14_no g h X
  obtain ⟨GG, hGG⟩ : ∃ GG, geomC g = GG := ⟨_, rfl⟩
  have hgs : GG.size = 6 := by rw [← hGG]; rfl
  have hgv : geomV g = .agg GG := by rw [← hGG]; rfl
  rw [hgv] at hst ⊢
  have HST := hid hst
  have ez : allOne z_M14 = true := rfl
  clear h hst hGG hgv
  go_enter Tryz.func7, Tryz.ntmps7
  go_wp2_with fail
  refine Calls.mono (anchor14_calls _) ?_
  rintro e w1 ⟨rfl, hk1⟩
  have hb := hk1.heap (heap_new w (.cells GG 23)) id
  have e0 := cellsAt_full (n := 6) hb hgs
  have HK := hid (Keeps.trans (show Keeps (fun _ => False) w _ from (by repeat (first | exact Keeps.refl _ _ | refine Keeps.alloc ?_ _ | refine Keeps.drew ?_ | refine Keeps.drewN ?_ _ | refine Keeps.trans ?_ (by assumption)))) hk1)
  clear hk1 hb
  go_wp2_with fail
  refine Calls.mono (HST.out _) ?_
  rintro e w2 ⟨rfl, hk2⟩
  have HK2 := hid (HK.out.trans hk2)
  clear hk2 e0
  go_wp2_with fail
  go_ret
  refine ⟨rfl, ?_⟩
  exact keeps_put0 (o := 0) (HK2.out.alloc (.cells z_M14 42)) (fun h => absurd h (Nat.not_lt.2 HK2.out.size)) z_M14

set_option maxHeartbeats 600000 in
set_option maxRecDepth 100000 in
theorem safe_out (g : GeomS) (o1 o2 : Option Addr) (xs keep : List Int) (n : Int) (c1 c2 : Nat) (w : World) (hg : g.right = true) (ha : g.all ≤ 64) (h : 64 < xs.length ∨ n < 0 ∨ 100 < n) : Calls Tryz.prog 7 #[geomV g, .slice o1 xs.length c1, .int .i64 n, .slice o2 keep.length c2] w fun e w' => e = .returned (.bool true) ∧ Keeps (fun _ => False) w w' := by
  have hst := fun X => started14_yes g hg ha (fun _ => 0) X (fun _ _ => rfl)
  obtain ⟨GG, hGG⟩ : ∃ GG, geomC g = GG := ⟨_, rfl⟩
  have hgs : GG.size = 6 := by rw [← hGG]; rfl
  have hgv : geomV g = .agg GG := by rw [← hGG]; rfl
  rw [hgv] at hst ⊢
  have HST := hid hst
  have hq : decide (64 < (xs.length : Int)) = true ∨ decide (64 < (xs.length : Int)) = false ∧ (decide (n < 0) = true ∨ decide (n < 0) = false ∧ decide (100 < n) = true) := by
    by_cases c1 : 64 < xs.length
    · exact .inl (by simp; omega)
    · refine .inr ⟨by simp; omega, ?_⟩
      by_cases c2 : n < 0
      · exact .inl (by simpa using c2)
      · exact .inr ⟨by simpa using c2, by simp; omega⟩
  clear h hst hGG hgv hg ha
  rcases hq with d1 | ⟨d1, d2 | ⟨d2, d3⟩⟩
  all_goals
    go_enter Tryz.func7, Tryz.ntmps7
    go_wp2_with fail
    refine Calls.mono (anchor14_calls _) ?_
    rintro e w1 ⟨rfl, hk1⟩
    have hb := hk1.heap (heap_new w (.cells GG 23)) id
    have e0 := cellsAt_full (n := 6) hb hgs
    have HK := hid (Keeps.trans (show Keeps (fun _ => False) w _ from (by repeat (first | exact Keeps.refl _ _ | refine Keeps.alloc ?_ _ | refine Keeps.drew ?_ | refine Keeps.drewN ?_ _ | refine Keeps.trans ?_ (by assumption)))) hk1)
    clear hk1 hb
    go_wp2_with fail
    refine Calls.mono (HST.out _) ?_
    rintro e w2 ⟨mb, pb, db, plb, own2, ys, rfl, hy1, hy2, hM, hs, hset⟩
    have HS := hid hs
    clear hM hs hset e0
    go_wp2_with fail
    go_ret
    refine ⟨rfl, ?_⟩
    have hkw : Keeps (fun _ => False) w w2 := HK.out.trans (HS.out.keeps.mono fun k _ h => absurd rfl h)
    exact keeps_put0 (o := 0) (hkw.alloc (.cells z_M14 42)) (fun h => absurd h (Nat.not_lt.2 hkw.size)) ys

set_option maxHeartbeats 1000000 in
set_option maxRecDepth 100000 in
theorem safe_in (g : GeomS) (o1 o2 : Option Addr) (xs keep : List Int) (n c1 c2 : Nat) (w : World) (hg : g.right = true) (ha : g.all ≤ 64) (hxs : xs.length ≤ 64) (hn : n ≤ 100) (hx : IntsAt w o1 xs) (hy : IntsAt w o2 keep) : Calls Tryz.prog 7 #[geomV g, .slice o1 xs.length c1, .int .i64 n, .slice o2 keep.length c2] w fun e w' => e = .returned (.bool true) ∧ Keeps (fun _ => False) w w' := by
  have hst := fun X => started14_yes g hg ha (fun _ => 0) X (fun _ _ => rfl)
  obtain ⟨GG, hGG⟩ : ∃ GG, geomC g = GG := ⟨_, rfl⟩
  have hgs : GG.size = 6 := by rw [← hGG]; rfl
  have hgv : geomV g = .agg GG := by rw [← hGG]; rfl
  rw [hgv] at hst ⊢
  have HST := hid hst
  have HG := hid (And.intro hg (And.intro hx (And.intro hy (And.intro hxs hn))))
  have d1 : decide (64 < (xs.length : Int)) = false := by simp; omega
  have d2 : decide ((n : Int) < 0) = false := by simp
  have d3 : decide (100 < (n : Int)) = false := by simp; omega
  clear hg ha hst hGG hgv hx hy
  go_enter Tryz.func7, Tryz.ntmps7
  go_wp2_with fail
  refine Calls.mono (anchor14_calls _) ?_
  rintro e w1 ⟨rfl, hk1⟩
  have hb := hk1.heap (heap_new w (.cells GG 23)) id
  have e0 := cellsAt_full (n := 6) hb hgs
  have HK := hid (Keeps.trans (show Keeps (fun _ => False) w _ from (by repeat (first | exact Keeps.refl _ _ | refine Keeps.alloc ?_ _ | refine Keeps.drew ?_ | refine Keeps.drewN ?_ _ | refine Keeps.trans ?_ (by assumption)))) hk1)
  clear hk1 hb
  go_wp2_with fail
  refine Calls.mono (HST.out _) ?_
  rintro e w2 ⟨mb, pb, db, plb, own2, ys, rfl, hy1, hy2, hM, hs, hset⟩
  have hst2 : Step anyTag w (fun _ => 0) w2 own2 := (Step.kept (A := anyTag) (HK.out.mono fun _ _ h => h.elim) (fun _ _ => rfl)).1.trans hs
  have hk3 := keeps_put0 (o := 0) ((Keeps.refl (fun _ => False) w2).alloc (.cells z_M14 42)) (fun h => absurd h (Nat.lt_irrefl _)) ys
  have h3 : SafeIn w mb pb db plb (mir0 g) own2 _ := (SafeIn.mk hM hst2 hset).still hk3
  obtain ⟨w3, hw3⟩ : ∃ w3, putCells (w2.alloc (.cells z_M14 42)) ⟨w2.heap.size, 0, none⟩ ys = w3 := ⟨_, rfl⟩
  rw [hw3] at h3
  have H3 := hid h3
  clear hM hs hset hst2 hk3 h3 e0
  go_wp2_with fail
  clear hw3 hy1 hy2 d1 d2 d3
  go_loopg [51] xs.length (fun (gk : Nat) (x : Value) (wr : World) => ∃ (k : Nat) (M : MirS), k + gk = xs.length ∧ x = .int .i64 k ∧ SafeIn w mb pb db plb M own2 wr ∧ M.Bare g)
  case atStart => exact ⟨0, mir0 g, by omega, rfl, H3.out, mir0_bare HG.out.1⟩
  case round =>
    obtain ⟨k, M, hk, rfl, hin, hbare⟩ := hrel
    by_cases c : k < xs.length
    · have dd : decide (k < xs.length) = true := by simpa using c
      obtain ⟨b, off, rfl, hc⟩ := (HG.out.2.1.in hin.step).get k xs[k] (List.getElem?_eq_getElem c)
      generalize xs[k] = y at *
      have HX := hid (And.intro hin hbare)
      clear hin hbare
      go_wp2_with fail
      refine Calls.mono (mpool_calls own2 mb pb db plb _ _ HX.out.1.at_) ?_
      rintro e w6 ⟨rfl, rfl⟩
      go_wp2_with fail
      refine Calls.mono (give_calls own2 plb M.p y _ HX.out.1.at_.pool HX.out.1.at_.ok.pool HX.out.1.set) ?_
      rintro e w6 ⟨rfl, hp6, hk6⟩
      have s6 := Step.kept (A := poolTag) hk6 HX.out.1.set
      have hM6 := HX.out.1.at_.turnp s6.1 hp6 (HX.out.1.at_.ok.pool.give y) ((M.p.give_g y).trans HX.out.1.at_.ok.pg)
      have H6 := hid (HX.out.1.turn s6.1 (by unfold poolTag; omega) s6.2 hM6)
      clear hp6 hk6 s6 hM6 hc
      go_wp2_with fail
      go_roundg (gk - 1)
      case measure => omega
      case rel => exact ⟨k + 1, _, by omega, by go_num, H6.out, HX.out.2.give y⟩
    · have dd : decide (k < xs.length) = false := by simpa using c
      have HX := hid (And.intro hin hbare)
      clear hin hbare
      go_wp2_with fail
      obtain ⟨hi_, hz0_, hz1_, hz2_⟩ : True ∧ True ∧ True ∧ True := ⟨trivial, trivial, trivial, trivial⟩
      clear hi_ hz0_ hz1_ hz2_
      have hinf := info_parts info_Ent
      have HI := hid hinf
      clear hinf
      go_loopg [14, 61] n (fun (gk : Nat) (lv x : Value) (wr : World) => ∃ (d : Nat) (M : MirS) (own5 : Nat → Nat) (L : List EntS), d + gk = n ∧ x = .int .i64 d ∧ L.length = d ∧ SafeAt g w mb pb db plb M own5 L lv wr)
      case atStart =>
        refine ⟨0, M, own2, [], by omega, rfl, rfl, HX.out.1, HX.out.2.run, fun j hj => ?_, fun k x hx => by simp at hx, RowAt.nil _ _ _ _⟩
        rw [(HX.out.2.emp j hj).1]; omega
      case round =>
        obtain ⟨d, M, own5, L, hd, rfl, hLd, hsa⟩ := hrel
        obtain ⟨la, lc, rfl⟩ := hsa.row.slice
        rw [hLd]
        by_cases c : d < n
        · have dd : decide ((d : Int) < n) = true := by simp; omega
          have hn100 := HG.out.2.2.2.2
          have w1 : IntKind.i64.wrap ((d : Int) + 1) = (d : Int) + 1 := IntWalk.i64_in _ (by omega)
          have w2 : IntKind.u8.wrap (d : Int) = (d : Int) := by
            show (d : Int) % 256 = d
            omega
          have hfl : ∀ X, Calls Tryz.prog 38 #[.int .u8 d] X fun e w' => e = .returned (.agg (bytesV (rndB d))) ∧ Keeps (fun _ => False) X w' := fun X => by
            have := efill_calls (UInt8.ofNat d) X
            have hb : byteV (UInt8.ofNat d) = .int .u8 d := by
              unfold byteV
              have : (UInt8.ofNat d).toNat = d := by simp; omega
              rw [this]
            rw [hb] at this
            exact this
          have en9 : (bytesV (rndB d)).size = 32 := by simp [bytesV, rndB]
          have HFL := hid hfl
          have hce : enC (rndE d) = enF 3 ((d : Int) + 1) 1 (bytesV (rndB d)) := (enF_eq 3 ((d : Int) + 1) 1 (rndB d)).symm
          have HS := hid hsa
          by_cases cp : (M.a ≠ -1 ∧ M.used < g.size) ∨ M.p.pairs ≠ 0
          · obtain ⟨M', a, b, u, ⟨hr, hrun, hseg, hu, hdm, hll, hk1, hk2⟩, hpl⟩ := mplace_run own5 mb pb db plb hsa.run (rndE d) (rndB_len d) 1 ((d : Int) + 1) (rndE_frames d (by omega)) cp
            have hhp := held_place (i := d) (by omega) hsa.run hrun hseg hu hdm hll hk1 hk2
            have hrp := hrun.plc hseg hu (rndE d) 1 ((d : Int) + 1)
            have hlw := (hsa.low.same (by rw [hrun.nz, hsa.run.nz]) hll).plc hseg (rndE d) 1 ((d : Int) + 1)
            have hcb : crcSum tab0 (rndE d).bytes = crcSum tab0 (rndB d) := rfl
            rw [hce, hcb] at hpl
            obtain ⟨MP, hMP⟩ : ∃ MP, M'.plc (rndE d) 1 ((d : Int) + 1) a b u = MP := ⟨_, rfl⟩
            rw [hMP] at hpl hhp hrp hlw
            obtain ⟨X, hX⟩ : ∃ X : EntS, ⟨1, a, b, u, (d : Int) + 1, crcSum tab0 (rndB d)⟩ = X := ⟨_, rfl⟩
            rw [hX] at hpl hhp
            have HP := hid (And.intro hhp (And.intro hrp hlw))
            have HPL := hid hpl
            have ex : (entC X).size = 6 := rfl
            have ex2 : allOne (entC X) = true := rfl
            have hel : (entC X).toList = entL X := rfl
            obtain ⟨EC, hEC⟩ : ∃ EC, entC X = EC := ⟨_, rfl⟩
            rw [hEC] at HPL ex ex2 hel
            have HEL := hid hel
            clear hsa hfl hr hrun hseg hu hdm hll hk1 hk2 hpl hhp hrp hlw hcb hMP hX hEC hel hce cp hn100
            go_wp2_with fail
            refine Calls.mono (HFL.out _) ?_
            rintro e w5 ⟨rfl, hk5⟩
            have H5 := hid hk5
            clear hk5
            go_wp2_with fail
            refine Calls.mono (HPL.out _ (HS.out.in_.at_.still H5.out) (HS.out.in_.set.keeps H5.out)) ?_
            rintro e w6 ⟨rfl, own6, hM6, hs6, hset6⟩
            have h6 := (HS.out.in_.still H5.out).turn hs6 mgTag_zero hset6 hM6
            have hrow6 := hs6.row (HS.out.row.keeps H5.out fun _ _ => id) mgTag_eight
            have hk7 := keeps_put0 (o := 0) ((Keeps.refl (fun _ => False) w6).alloc (.cells z_Ent 83)) (fun h => absurd h (Nat.lt_irrefl _)) EC
            have hb7 := putCells_at (heap_new w6 (.cells z_Ent 83)) (show z_Ent.size = EC.size by rw [ex]; rfl)
            have hld := cellsAt_full (n := 6) hb7 ex
            obtain ⟨w7, hw7⟩ : ∃ w7, putCells (w6.alloc (.cells z_Ent 83)) ⟨w6.heap.size, 0, none⟩ EC = w7 := ⟨_, rfl⟩
            rw [hw7] at hk7 hld
            have H7 := hid (And.intro (h6.still hk7) (hrow6.keeps hk7 fun _ _ => id))
            clear hM6 hs6 hset6 h6 hrow6 hk7 hb7
            obtain ⟨i0, hi, hz0, hz1, hz2⟩ := HI.out
            go_wp2_with (at_builtin; go_loud (refine wpList_append_tag rfl (.tmp 79) (.tmp 81) rfl Tryz.underlying95 hi hz0 hz1 hz2 rfl (by decide) rfl (Q := fun k => own6 k = 8) (n := d) (m := 1) (xs := L.flatMap entL) ?own rfl (news := entL X) ?c0 ?c1 ?c2 ?c3 ?c4 (by decide) ?go))
            case own =>
              have := H7.out.2.keeps ((Keeps.refl (fun _ => False) w7).alloc (.cells EC 83)) (fun _ _ => id)
              rw [hLd] at this
              exact this
            case c0 => rfl
            case c1 =>
              intro j u hu
              rw [add_off, Nat.zero_add, cell_of (heap_new w7 _) j]
              rw [← HEL.out] at hu
              simpa using hu
            case c2 => exact fun u hu => by simp only [entL, List.mem_cons, List.mem_nil_iff, or_false] at hu; rcases hu with rfl | rfl | rfl | rfl | rfl | rfl <;> rfl
            case c3 => unfold maxLen; omega
            case c4 => omega
            case go =>
              intro g2 cap2 w10 hown hg2 hk10
              have hset8 : Settled own6 (w7.alloc (.cells EC 83)) := H7.out.1.set.keeps ((Keeps.refl (fun _ => False) w7).alloc _)
              have h8 := H7.out.1.still ((Keeps.refl (fun _ => False) w7).alloc (.cells EC 83))
              have hglt : g2 < w10.heap.size := (ownsRow_block hown rfl).2.1
              obtain ⟨s1, s2⟩ := Step.tag (A := fun t => t = 8) hk10 hset8 rfl (by rw [World.size_alloc]; exact hg2) hglt
              have hm10 := h8.at_.kept s1 fun t ht e => mirTag_eight t ht e
              have h10 := h8.turn s1 (by omega) s2 hm10
              have hrow := (rowAt_of_owns hown (P := fun k => tag own6 g2 8 k = 8) (tag_self _ _ _))
              have HZ := hid (And.intro h10 hrow)
              clear hown hg2 hk10 hset8 h8 hglt s1 s2 hm10 h10 hrow hi hz0 hz1 hz2 hld hw7
              go_wp2_with fail
              go_roundg (gk - 1)
              case measure => omega
              case rel =>
                refine ⟨d + 1, MP, tag own6 g2 8, L ++ [X], by omega, by go_num, by simp [hLd], HZ.out.1, HP.out.2.1, HP.out.2.2, fun k x hx => ?_, ?_⟩
                · by_cases hk : k < L.length
                  · rw [List.getElem?_append_left hk] at hx
                    exact HP.out.1.1 k x (HS.out.held k x hx)
                  · rw [List.getElem?_append_right (by omega)] at hx
                    have hk0 : k - L.length = 0 := by
                      refine Decidable.byContradiction fun cc => ?_
                      rw [List.getElem?_eq_none (by simp; omega)] at hx
                      cases hx
                    rw [hk0] at hx
                    simp at hx
                    subst hx
                    have : k = d := by omega
                    subst this
                    exact HP.out.1.2
                · rw [List.flatMap_append, List.length_append, List.length_singleton, hLd]
                  have := HZ.out.2
                  simpa using this
          · obtain ⟨cp1, cp2⟩ := not_or.1 cp
            obtain ⟨M6, hr6, hrun6, hl6, ha6, hb6, -, -⟩ := hsa.run.ready_no cp1 (by simpa using cp2)
            obtain ⟨-, -, f3⟩ := EnS.frames_parts (rndE_frames d (by omega))
            have hpl := fun X h hs => mplace_none own5 mb pb db plb M (rndE d) (rndB_len d) 1 ((d : Int) + 1) (by rw [f3]) (by rw [hr6]; simp) X h hs
            rw [hr6, hce] at hpl
            have hheld : ∀ k x, L[k]? = some x → Held M6 k x := fun k x hx => held_none hl6 (by rw [hrun6.nz, hsa.run.nz]) (by rw [hrun6.mg, hsa.run.mg]) ha6 hb6 (hsa.held k x hx)
            have hlow : Low M6 := hsa.low.same (by rw [hrun6.nz, hsa.run.nz]) hl6
            have HP := hid (And.intro hrun6 (And.intro hlow hheld))
            have ex : (entC ent0).size = 6 := rfl
            have ex2 : allOne (entC ent0) = true := rfl
            obtain ⟨EC, hEC⟩ : ∃ EC, entC ent0 = EC := ⟨_, rfl⟩
            rw [hEC] at hpl ex ex2
            have HPL := hid hpl
            clear hsa hfl hr6 hrun6 hl6 ha6 hb6 f3 hpl hheld hlow hEC hce cp cp1 cp2 hn100
            go_wp2_with fail
            refine Calls.mono (HFL.out _) ?_
            rintro e w5 ⟨rfl, hk5⟩
            have H5 := hid hk5
            clear hk5
            go_wp2_with fail
            refine Calls.mono (HPL.out _ (HS.out.in_.at_.still H5.out) (HS.out.in_.set.keeps H5.out)) ?_
            rintro e w6 ⟨rfl, own6, hM6, hs6, hset6⟩
            have h6 := (HS.out.in_.still H5.out).turn hs6 mgTag_zero hset6 hM6
            have hrow6 := hs6.row (HS.out.row.keeps H5.out fun _ _ => id) mgTag_eight
            have hk7 := keeps_put0 (o := 0) ((Keeps.refl (fun _ => False) w6).alloc (.cells z_Ent 83)) (fun h => absurd h (Nat.lt_irrefl _)) EC
            obtain ⟨w7, hw7⟩ : ∃ w7, putCells (w6.alloc (.cells z_Ent 83)) ⟨w6.heap.size, 0, none⟩ EC = w7 := ⟨_, rfl⟩
            rw [hw7] at hk7
            have HS6 : Hid (SafeAt g w mb pb db plb M6 own6 L (.slice la L.length lc) w7) := hid ⟨h6.still hk7, HP.out.1, HP.out.2.1, HP.out.2.2, hrow6.keeps hk7 fun _ _ => id⟩
            clear hM6 hs6 hset6 h6 hrow6 hk7 w1 w2 en9
            go_wp2_with fail
            clear hw7 ex ex2
            refine Calls.mono (mopen_calls own6 mb pb db plb M6 _ HS6.out.in_.at_) ?_
            rintro e w11 ⟨rfl, hk11⟩
            have HS11 := hid (HS6.out.still hk11)
            clear hk11
            go_wp2_with fail
            refine Calls.mono (mdrive_calls own6 mb pb db plb M6 w11 HS11.out.in_.at_) ?_
            rintro e w12 ⟨rfl, rfl⟩
            go_wp2_with fail
            refine Calls.mono (pdevice_calls own6 pb db M6.d w11 HS11.out.in_.at_.drive) ?_
            rintro e w12 ⟨rfl, rfl⟩
            go_wp2_with fail
            refine Calls.mono (dcrash_calls own6 db M6.d.d w11 HS11.out.in_.at_.drive.dev) ?_
            rintro e w12 ⟨rfl, hd12, hk12⟩
            obtain ⟨s12, st12⟩ := Step.kept (A := devTag) hk12 HS11.out.in_.set
            obtain ⟨mk_, ck_, hh_⟩ := HS11.out.in_.at_.drive.head
            have hdr12 : DriveAt w12 own6 pb db { M6.d with d := { M6.d.d with down := true } } := ⟨⟨mk_, ck_, hh_.dev s12 hd12 (HS11.out.in_.at_.drive.good.count M6.d.d.n true)⟩, hd12⟩
            have hm12 := HS11.out.in_.at_.turn s12.drv hdr12 ⟨rfl, rfl, rfl⟩
            have h12 := HS11.out.in_.turn s12 (by unfold devTag; omega) st12 hm12
            have row12 := s12.row HS11.out.row (by unfold devTag; omega)
            have H12 := hid (And.intro h12 row12)
            clear hd12 hk12 s12 st12 hh_ hdr12 hm12 h12 row12
            go_wp2_with fail
            refine Calls.mono (mdrive_calls own6 mb pb db plb _ w12 H12.out.1.at_) ?_
            rintro e w13 ⟨rfl, rfl⟩
            go_wp2_with fail
            refine Calls.mono (previve_calls own6 pb db _ o2 keep c2 w12 H12.out.1.at_.drive H12.out.1.set (fun W own' hs => HG.out.2.2.1.in (H12.out.1.step.trans (hs.mono fun t ht => by unfold anyTag devTag at *; omega)))) ?_
            rintro e w13 ⟨rfl, own7, hd13, hs13, hset13⟩
            have hm13 : MirAt w13 own7 mb pb db plb (M6.reborn keep) := H12.out.1.at_.turn hs13 hd13 (like_revive _ keep)
            have h13 := H12.out.1.turn hs13 (by unfold drvTag devTag; omega) hset13 hm13
            have row13 := hs13.row H12.out.2 (by unfold drvTag devTag; omega)
            have hbh := reborn_behind HS11.out.run keep
            have hrec : ∀ k x, L[k]? = some x → (x.state = 1 ∧ x.live g = true) ∧ (x.zone ≠ M6.a → ∃ a b o : Nat, RecAt (M6.reborn keep).d x (rndE k) 1 a b o) := fun k x hx => by
              have hh := HS11.out.held k x hx
              refine ⟨⟨hh.live.1, ?_⟩, fun hne => reborn_rec HS11.out.run HS11.out.low keep hh hne⟩
              have := hh.live.2
              rwa [HS11.out.run.mg] at this
            obtain ⟨MB, hMB⟩ : ∃ MB, M6.reborn keep = MB := ⟨_, rfl⟩
            rw [hMB] at h13 hbh hrec
            obtain ⟨za, hza⟩ : ∃ za, M6.a = za := ⟨_, rfl⟩
            rw [hza] at hrec ⊢
            have H13 := hid (And.intro h13 (And.intro row13 (And.intro hbh hrec)))
            clear hd13 hs13 hset13 hm13 h13 row13 hbh hrec hMB hza
            go_wp2_with fail
            go_loopg [100] d (fun (gk : Nat) (x : Value) (wr : World) => ∃ (k : Nat) (own8 : Nat → Nat) (Mc : MirS), k + gk = d ∧ x = .int .i64 k ∧ SafeIn w mb pb db plb Mc own8 wr ∧ Behind g Mc ∧ Mc.d.d.nz = MB.d.d.nz ∧ (∀ j, Mc.d.d.z j = MB.d.d.z j) ∧ RowAt wr (fun k => own8 k = 8) 83 6 (.slice la L.length lc) L.length (L.flatMap entL))
            case atStart => exact ⟨0, own7, MB, by omega, rfl, H13.out.1, H13.out.2.2.1, rfl, fun _ => rfl, H13.out.2.1⟩
            case round =>
              obtain ⟨k, own8, Mc, hk, rfl, hin, hbeh, hnz, hzz, hrow⟩ := hrel
              by_cases ck : k < d
              · have dk : decide ((k : Int) < (d : Int)) = true := by simp; omega
                have dk0 : decide (k < d) = true := by simpa using ck
                obtain ⟨gb, rfl, -, hgo, hcl⟩ := ent_at hrow rfl k (by omega)
                have hkx := List.getElem?_eq_getElem (l := L) (i := k) (by omega)
                obtain ⟨hlive, hrc⟩ := H13.out.2.2.2 k L[k] hkx
                generalize L[k] = x at *
                have ex : (entC x).size = 6 := rfl
                have ex2 : allOne (entC x) = true := rfl
                have ex1 : (entC x)[1]? = some (.int .i64 x.zone) := rfl
                have HX9 := hid (And.intro hin (And.intro hbeh (And.intro hnz (And.intro hzz (And.intro hrow (And.intro hlive hrc))))))
                have hne1 : gb ≠ wr.heap.size := by have := cell_lt ((cellsAt_cell hcl).2 0 (.int .i64 x.state) rfl |> fun h => by rw [add_off] at h; exact h); omega
                have hk14 := keeps_put0 (o := 0) ((Keeps.refl (fun _ => False) wr).alloc (.cells z_Ent 83)) (fun h => absurd h (Nat.lt_irrefl _)) (entC x)
                have hb14 := putCells_at (heap_new wr (.cells z_Ent 83)) (show z_Ent.size = (entC x).size from rfl)
                obtain ⟨w14, hw14⟩ : ∃ w14, putCells (wr.alloc (.cells z_Ent 83)) ⟨wr.heap.size, 0, none⟩ (entC x) = w14 := ⟨_, rfl⟩
                rw [hw14] at hk14 hb14
                have cz := (cell_of hb14 1).trans ex1
                have hld := cellsAt_full (n := 6) hb14 ex
                obtain ⟨EX, hEX⟩ : ∃ EX, entC x = EX := ⟨_, rfl⟩
                rw [hEX] at hcl ex ex2 hld hw14
                have HEX := hid hEX
                have H14 := hid (And.intro (hin.still hk14) (hrow.keeps hk14 fun _ _ => id))
                clear hin hbeh hnz hzz hrow hlive hrc hkx hk14 hb14 ex1 hEX hgo
                by_cases ce : x.zone = za
                · have be : (x.zone == za) = true := by simpa using ce
                  clear ce
                  go_wp2_with fail
                  go_roundg (gk - 1)
                  case measure => omega
                  case rel => exact ⟨k + 1, own8, Mc, by omega, by go_num, H14.out.1, HX9.out.2.1, HX9.out.2.2.1, HX9.out.2.2.2.1, H14.out.2⟩
                · have be : (x.zone == za) = false := by simpa using ce
                  obtain ⟨a_, b_, o_, hr_⟩ := HX9.out.2.2.2.2.2.2 ce
                  have hr2 : RecAt Mc.d x (rndE k) 1 a_ b_ o_ := hr_.same HX9.out.2.2.1 fun j => by rw [HX9.out.2.2.2.1 j]; exact ⟨rfl, rfl⟩
                  have hck := behind_chk HX9.out.2.1 hr2 HX9.out.2.2.2.2.2.1
                  have HCK := hid hck
                  have hn100 := HG.out.2.2.2.2
                  have w2 : IntKind.u8.wrap (k : Int) = (k : Int) := by
                    show (k : Int) % 256 = k
                    omega
                  have hfl : ∀ X, Calls Tryz.prog 38 #[.int .u8 k] X fun e w' => e = .returned (.agg (bytesV (rndB k))) ∧ Keeps (fun _ => False) X w' := fun X => by
                    have := efill_calls (UInt8.ofNat k) X
                    have hb : byteV (UInt8.ofNat k) = .int .u8 k := by
                      unfold byteV
                      have : (UInt8.ofNat k).toNat = k := by simp; omega
                      rw [this]
                    rw [hb] at this
                    exact this
                  have HFL := hid hfl
                  have eb := allOne_bytes (rndB k)
                  have eb2 : (bytesV (rndB k)).size = 32 := by simp [bytesV, rndB]
                  have heq := block_eq (rndB k) (rndB k) (rndB_len k) (rndB_len k)
                  rw [show (rndB k == rndB k) = true by simp] at heq
                  have hnq : ∀ W, (binOp .neq 87 (.agg (bytesV (rndB k))) (.agg (bytesV (rndB k)))).run Tryz.prog W = .ok (.bool false) W := fun W => block_neq (rndB k) (rndB_len k) W
                  obtain ⟨BK, hBK⟩ : ∃ BK, bytesV (rndB k) = BK := ⟨_, rfl⟩
                  rw [hBK] at HFL eb eb2 heq hnq
                  have HBK := hid hBK
                  clear ce hr_ hr2 hck hfl hn100 hBK
                  go_wp2_with fail
                  rw [← HEX.out]
                  refine Calls.mono (mcheck_calls own8 mb pb db plb Mc x w14 H14.out.1.at_ H14.out.1.set) ?_
                  rw [HCK.out]
                  rintro e w15 ⟨rfl, own9, hM15, hs15, hset15⟩
                  have h15 := H14.out.1.turn hs15 mgTag_zero hset15 hM15
                  have row15 := hs15.row H14.out.2 mgTag_eight
                  have hk16 := keeps_put0 (o := 0) ((Keeps.refl (fun _ => False) w15).alloc (.cells z_Block 87)) (fun h => absurd h (Nat.lt_irrefl _)) BK
                  have hl16 := putCells_at (heap_new w15 (.cells z_Block 87)) (show z_Block.size = BK.size by rw [eb2]; rfl)
                  obtain ⟨w16, hw16⟩ : ∃ w16, putCells (w15.alloc (.cells z_Block 87)) ⟨w15.heap.size, 0, none⟩ BK = w16 := ⟨_, rfl⟩
                  rw [hw16] at hk16 hl16
                  have H16 := hid (And.intro (h15.still hk16) (row15.keeps hk16 fun _ _ => id))
                  have HF : Hid (∀ W, Keeps (fun _ => False) w16 W → cellsAt W ⟨w15.heap.size, 0, none⟩ 32 = some BK) := hid fun W hW => cellsAt_full (hW.heap hl16 id) eb2
                  have hbv : bytesV (({ Mc with d := Mc.d.tick.tick }, rndB k, 2, 0) : MirS × List UInt8 × Int × Int).2.1 = BK := HBK.out
                  simp only [HBK.out]
                  clear hM15 hs15 hset15 h15 row15 hk16 hl16 cz hld hw14 hcl
                  go_wp2_with fail
                  refine wp_region_still (by kernel_rfl) (by kernel_rfl) ?_
                  repeat (first | (refine still_pass ?_ ?_; (focus (first | (go_simp; done) | rfl)); try simp only [Act.put, List.setIfInBounds_toArray, List.set_cons_succ, List.set_cons_zero]) | (apply still_step; (focus (go_simp; done)); (focus (intro W hW; unfold Oper.quietAt; (have cb := HF.out W hW); go_simp; first | done | with_reducible rfl | (go_at_call 38; exact still_call hW (HFL.out W)) | exact ⟨rfl, rfl⟩)); try simp only [Act.put, List.setIfInBounds_toArray, List.set_cons_succ, List.set_cons_zero]))
                  refine wpQuiet_nil ?_
                  intro W hW
                  have HW := hid hW
                  clear hW
                  go_wp2_with fail
                  go_roundg (gk - 1)
                  case measure => omega
                  case rel => exact ⟨k + 1, own9, _, by omega, by go_num, H16.out.1.still HW.out, behind_tick HX9.out.2.1, HX9.out.2.2.1, HX9.out.2.2.2.1, H16.out.2.keeps HW.out fun _ _ => id⟩
              · have dk : decide ((k : Int) < (d : Int)) = false := by simp; omega
                have dk0 : decide (k < d) = false := by simpa using ck
                have HE := hid hin.step.keeps
                clear hin hbeh hnz hzz hrow
                go_wp2_with fail
                go_ret
                exact ⟨rfl, HE.out.mono fun k _ h => absurd rfl h⟩
        · have dd : decide ((d : Int) < n) = false := by simp; omega
          have dd0 : decide (d < n) = false := by simpa using c
          have HS6 := hid hsa
          obtain ⟨M6, hM6⟩ : ∃ M6, M = M6 := ⟨_, rfl⟩
          obtain ⟨own6, ho6⟩ : ∃ own6, own5 = own6 := ⟨_, rfl⟩
          subst hM6 ho6
          clear hsa
          go_wp2_with fail
          refine Calls.mono (mopen_calls own5 mb pb db plb M _ HS6.out.in_.at_) ?_
          rintro e w11 ⟨rfl, hk11⟩
          have HS11 := hid (HS6.out.still hk11)
          clear hk11
          go_wp2_with fail
          refine Calls.mono (mdrive_calls own5 mb pb db plb M w11 HS11.out.in_.at_) ?_
          rintro e w12 ⟨rfl, rfl⟩
          go_wp2_with fail
          refine Calls.mono (pdevice_calls own5 pb db M.d w11 HS11.out.in_.at_.drive) ?_
          rintro e w12 ⟨rfl, rfl⟩
          go_wp2_with fail
          refine Calls.mono (dcrash_calls own5 db M.d.d w11 HS11.out.in_.at_.drive.dev) ?_
          rintro e w12 ⟨rfl, hd12, hk12⟩
          obtain ⟨s12, st12⟩ := Step.kept (A := devTag) hk12 HS11.out.in_.set
          obtain ⟨mk_, ck_, hh_⟩ := HS11.out.in_.at_.drive.head
          have hdr12 : DriveAt w12 own5 pb db { M.d with d := { M.d.d with down := true } } := ⟨⟨mk_, ck_, hh_.dev s12 hd12 (HS11.out.in_.at_.drive.good.count M.d.d.n true)⟩, hd12⟩
          have hm12 := HS11.out.in_.at_.turn s12.drv hdr12 ⟨rfl, rfl, rfl⟩
          have h12 := HS11.out.in_.turn s12 (by unfold devTag; omega) st12 hm12
          have row12 := s12.row HS11.out.row (by unfold devTag; omega)
          have H12 := hid (And.intro h12 row12)
          clear hd12 hk12 s12 st12 hh_ hdr12 hm12 h12 row12
          go_wp2_with fail
          refine Calls.mono (mdrive_calls own5 mb pb db plb _ w12 H12.out.1.at_) ?_
          rintro e w13 ⟨rfl, rfl⟩
          go_wp2_with fail
          refine Calls.mono (previve_calls own5 pb db _ o2 keep c2 w12 H12.out.1.at_.drive H12.out.1.set (fun W own' hs => HG.out.2.2.1.in (H12.out.1.step.trans (hs.mono fun t ht => by unfold anyTag devTag at *; omega)))) ?_
          rintro e w13 ⟨rfl, own7, hd13, hs13, hset13⟩
          have hm13 : MirAt w13 own7 mb pb db plb (M.reborn keep) := H12.out.1.at_.turn hs13 hd13 (like_revive _ keep)
          have h13 := H12.out.1.turn hs13 (by unfold drvTag devTag; omega) hset13 hm13
          have row13 := hs13.row H12.out.2 (by unfold drvTag devTag; omega)
          have hbh := reborn_behind HS11.out.run keep
          have hrec : ∀ k x, L[k]? = some x → (x.state = 1 ∧ x.live g = true) ∧ (x.zone ≠ M.a → ∃ a b o : Nat, RecAt (M.reborn keep).d x (rndE k) 1 a b o) := fun k x hx => by
            have hh := HS11.out.held k x hx
            refine ⟨⟨hh.live.1, ?_⟩, fun hne => reborn_rec HS11.out.run HS11.out.low keep hh hne⟩
            have := hh.live.2
            rwa [HS11.out.run.mg] at this
          obtain ⟨MB, hMB⟩ : ∃ MB, M.reborn keep = MB := ⟨_, rfl⟩
          rw [hMB] at h13 hbh hrec
          obtain ⟨za, hza⟩ : ∃ za, M.a = za := ⟨_, rfl⟩
          rw [hza] at hrec ⊢
          have H13 := hid (And.intro h13 (And.intro row13 (And.intro hbh hrec)))
          clear hd13 hs13 hset13 hm13 h13 row13 hbh hrec hMB hza
          go_wp2_with fail
          go_loopg [100] d (fun (gk : Nat) (x : Value) (wr : World) => ∃ (k : Nat) (own8 : Nat → Nat) (Mc : MirS), k + gk = d ∧ x = .int .i64 k ∧ SafeIn w mb pb db plb Mc own8 wr ∧ Behind g Mc ∧ Mc.d.d.nz = MB.d.d.nz ∧ (∀ j, Mc.d.d.z j = MB.d.d.z j) ∧ RowAt wr (fun k => own8 k = 8) 83 6 (.slice la L.length lc) L.length (L.flatMap entL))
          case atStart => exact ⟨0, own7, MB, by omega, rfl, H13.out.1, H13.out.2.2.1, rfl, fun _ => rfl, H13.out.2.1⟩
          case round =>
            obtain ⟨k, own8, Mc, hk, rfl, hin, hbeh, hnz, hzz, hrow⟩ := hrel
            by_cases ck : k < d
            · have dk : decide ((k : Int) < (d : Int)) = true := by simp; omega
              have dk0 : decide (k < d) = true := by simpa using ck
              obtain ⟨gb, rfl, -, hgo, hcl⟩ := ent_at hrow rfl k (by omega)
              have hkx := List.getElem?_eq_getElem (l := L) (i := k) (by omega)
              obtain ⟨hlive, hrc⟩ := H13.out.2.2.2 k L[k] hkx
              generalize L[k] = x at *
              have ex : (entC x).size = 6 := rfl
              have ex2 : allOne (entC x) = true := rfl
              have ex1 : (entC x)[1]? = some (.int .i64 x.zone) := rfl
              have HX9 := hid (And.intro hin (And.intro hbeh (And.intro hnz (And.intro hzz (And.intro hrow (And.intro hlive hrc))))))
              have hne1 : gb ≠ wr.heap.size := by have := cell_lt ((cellsAt_cell hcl).2 0 (.int .i64 x.state) rfl |> fun h => by rw [add_off] at h; exact h); omega
              have hk14 := keeps_put0 (o := 0) ((Keeps.refl (fun _ => False) wr).alloc (.cells z_Ent 83)) (fun h => absurd h (Nat.lt_irrefl _)) (entC x)
              have hb14 := putCells_at (heap_new wr (.cells z_Ent 83)) (show z_Ent.size = (entC x).size from rfl)
              obtain ⟨w14, hw14⟩ : ∃ w14, putCells (wr.alloc (.cells z_Ent 83)) ⟨wr.heap.size, 0, none⟩ (entC x) = w14 := ⟨_, rfl⟩
              rw [hw14] at hk14 hb14
              have cz := (cell_of hb14 1).trans ex1
              have hld := cellsAt_full (n := 6) hb14 ex
              obtain ⟨EX, hEX⟩ : ∃ EX, entC x = EX := ⟨_, rfl⟩
              rw [hEX] at hcl ex ex2 hld hw14
              have HEX := hid hEX
              have H14 := hid (And.intro (hin.still hk14) (hrow.keeps hk14 fun _ _ => id))
              clear hin hbeh hnz hzz hrow hlive hrc hkx hk14 hb14 ex1 hEX hgo
              by_cases ce : x.zone = za
              · have be : (x.zone == za) = true := by simpa using ce
                clear ce
                go_wp2_with fail
                go_roundg (gk - 1)
                case measure => omega
                case rel => exact ⟨k + 1, own8, Mc, by omega, by go_num, H14.out.1, HX9.out.2.1, HX9.out.2.2.1, HX9.out.2.2.2.1, H14.out.2⟩
              · have be : (x.zone == za) = false := by simpa using ce
                obtain ⟨a_, b_, o_, hr_⟩ := HX9.out.2.2.2.2.2.2 ce
                have hr2 : RecAt Mc.d x (rndE k) 1 a_ b_ o_ := hr_.same HX9.out.2.2.1 fun j => by rw [HX9.out.2.2.2.1 j]; exact ⟨rfl, rfl⟩
                have hck := behind_chk HX9.out.2.1 hr2 HX9.out.2.2.2.2.2.1
                have HCK := hid hck
                have hn100 := HG.out.2.2.2.2
                have w2 : IntKind.u8.wrap (k : Int) = (k : Int) := by
                  show (k : Int) % 256 = k
                  omega
                have hfl : ∀ X, Calls Tryz.prog 38 #[.int .u8 k] X fun e w' => e = .returned (.agg (bytesV (rndB k))) ∧ Keeps (fun _ => False) X w' := fun X => by
                  have := efill_calls (UInt8.ofNat k) X
                  have hb : byteV (UInt8.ofNat k) = .int .u8 k := by
                    unfold byteV
                    have : (UInt8.ofNat k).toNat = k := by simp; omega
                    rw [this]
                  rw [hb] at this
                  exact this
                have HFL := hid hfl
                have eb := allOne_bytes (rndB k)
                have eb2 : (bytesV (rndB k)).size = 32 := by simp [bytesV, rndB]
                have heq := block_eq (rndB k) (rndB k) (rndB_len k) (rndB_len k)
                rw [show (rndB k == rndB k) = true by simp] at heq
                have hnq : ∀ W, (binOp .neq 87 (.agg (bytesV (rndB k))) (.agg (bytesV (rndB k)))).run Tryz.prog W = .ok (.bool false) W := fun W => block_neq (rndB k) (rndB_len k) W
                obtain ⟨BK, hBK⟩ : ∃ BK, bytesV (rndB k) = BK := ⟨_, rfl⟩
                rw [hBK] at HFL eb eb2 heq hnq
                have HBK := hid hBK
                clear ce hr_ hr2 hck hfl hn100 hBK
                go_wp2_with fail
                rw [← HEX.out]
                refine Calls.mono (mcheck_calls own8 mb pb db plb Mc x w14 H14.out.1.at_ H14.out.1.set) ?_
                rw [HCK.out]
                rintro e w15 ⟨rfl, own9, hM15, hs15, hset15⟩
                have h15 := H14.out.1.turn hs15 mgTag_zero hset15 hM15
                have row15 := hs15.row H14.out.2 mgTag_eight
                have hk16 := keeps_put0 (o := 0) ((Keeps.refl (fun _ => False) w15).alloc (.cells z_Block 87)) (fun h => absurd h (Nat.lt_irrefl _)) BK
                have hl16 := putCells_at (heap_new w15 (.cells z_Block 87)) (show z_Block.size = BK.size by rw [eb2]; rfl)
                obtain ⟨w16, hw16⟩ : ∃ w16, putCells (w15.alloc (.cells z_Block 87)) ⟨w15.heap.size, 0, none⟩ BK = w16 := ⟨_, rfl⟩
                rw [hw16] at hk16 hl16
                have H16 := hid (And.intro (h15.still hk16) (row15.keeps hk16 fun _ _ => id))
                have HF : Hid (∀ W, Keeps (fun _ => False) w16 W → cellsAt W ⟨w15.heap.size, 0, none⟩ 32 = some BK) := hid fun W hW => cellsAt_full (hW.heap hl16 id) eb2
                have hbv : bytesV (({ Mc with d := Mc.d.tick.tick }, rndB k, 2, 0) : MirS × List UInt8 × Int × Int).2.1 = BK := HBK.out
                simp only [HBK.out]
                clear hM15 hs15 hset15 h15 row15 hk16 hl16 cz hld hw14 hcl
                go_wp2_with fail
                refine wp_region_still (by kernel_rfl) (by kernel_rfl) ?_
                repeat (first | (refine still_pass ?_ ?_; (focus (first | (go_simp; done) | rfl)); try simp only [Act.put, List.setIfInBounds_toArray, List.set_cons_succ, List.set_cons_zero]) | (apply still_step; (focus (go_simp; done)); (focus (intro W hW; unfold Oper.quietAt; (have cb := HF.out W hW); go_simp; first | done | with_reducible rfl | (go_at_call 38; exact still_call hW (HFL.out W)) | exact ⟨rfl, rfl⟩)); try simp only [Act.put, List.setIfInBounds_toArray, List.set_cons_succ, List.set_cons_zero]))
                refine wpQuiet_nil ?_
                intro W hW
                have HW := hid hW
                clear hW
                go_wp2_with fail
                go_roundg (gk - 1)
                case measure => omega
                case rel => exact ⟨k + 1, own9, _, by omega, by go_num, H16.out.1.still HW.out, behind_tick HX9.out.2.1, HX9.out.2.2.1, HX9.out.2.2.2.1, H16.out.2.keeps HW.out fun _ _ => id⟩
            · have dk : decide ((k : Int) < (d : Int)) = false := by simp; omega
              have dk0 : decide (k < d) = false := by simpa using ck
              have HE := hid hin.step.keeps
              clear hin hbeh hnz hzz hrow
              go_wp2_with fail
              go_ret
              exact ⟨rfl, HE.out.mono fun k _ h => absurd rfl h⟩
end Go.Rv
