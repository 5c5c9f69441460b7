/- The document's geometry. -/
import Derived.Test.YtoijkpgcaokhlaaGreatPart07
import Derived.Test.YtoijkpgcaokhlaaGreatPart05
import Derived.Test.YtoijkpgcaokhlaaGreatPart08
import Derived.MapKept
set_option linter.unusedVariables false
set_option linter.unusedSimpArgs false
namespace Go.Rv
open Go Go.RowKit Go.Proofs
attribute [local irreducible] wpQuiet

theorem half_calls (n : Int) (h1 : -1000000 ≤ n) (h2 : n ≤ 1000000) (w : World) : Calls Tryz.prog 127 #[.int .i64 n] w fun e w' => e = .returned (.int .i64 (n / 2)) ∧ w' = w := by
  by_cases c1 : n < 0
  · have d1 : decide (n < 0) = true := by simpa using c1
    go_enter Tryz.func127, Tryz.ntmps127
    go_wp2
    go_ret
    exact ⟨ret_int (by omega), rfl⟩
  · have d1 : decide (n < 0) = false := by simpa using c1
    go_enter Tryz.func127, Tryz.ntmps127
    go_wp2
    go_ret
    exact ⟨ret_int (by omega), rfl⟩

def refB (g : GeomS) : Obj := .cells #[.int .i64 g.domains, .int .i64 g.zones, .int .i64 g.size, .int .i64 g.blocks, .int .i64 g.spare, .int .i64 g.opn] 37

theorem refParts_calls (g : GeomS) (h1 : 1 ≤ g.blocks) (h2 : g.blocks ≤ 256) (w : World) : Calls Tryz.prog 76 #[geomV g] w fun e w' => e = .returned (.int .i64 g.parts) ∧ w' = w.alloc (refB g) := by
  obtain ⟨N, hN⟩ : ∃ N : Nat, (N : Int) = (g.blocks + 1) / 2 := ⟨((g.blocks + 1) / 2).toNat, by omega⟩
  have HN := hid hN
  have hN1 : 2 * (N : Int) ≤ g.blocks + 1 := by omega
  have hN2 : g.blocks < 2 * (N : Int) + 1 := by omega
  clear hN
  unfold geomV
  go_enter Tryz.func76, Tryz.ntmps76
  go_wp2_with fail
  go_loopg [3, 4] N (fun (gk : Nat) (a b : Value) (wr : World) => ∃ k : Nat, k + gk = N ∧ a = .int .i64 (1 + k) ∧ b = .int .i64 (2 * k) ∧ wr = w.alloc (refB g))
  case atStart => exact ⟨0, by omega, rfl, rfl, rfl⟩
  case round =>
    obtain ⟨k, hk, rfl, rfl, rfl⟩ := hrel
    unfold refB
    by_cases c : 2 * (k : Int) < g.blocks
    · have d : decide (2 * (k : Int) < g.blocks) = true := by simpa using c
      go_wp2_with fail
      go_roundg (gk - 1)
      case measure => omega
      case rel => exact ⟨k + 1, by omega, by go_num, by go_num, rfl⟩
    · have d : decide (2 * (k : Int) < g.blocks) = false := by simpa using c
      go_wp2_with fail
      go_ret
      have := HN.out
      exact ⟨ret_int (by unfold GeomS.parts; omega), rfl⟩

theorem refSegs_calls (g : GeomS) (h : g.Small) (w : World) : Calls Tryz.prog 77 #[geomV g] w fun e w' => e = .returned (.int .i64 g.segs) ∧ Keeps (fun _ => False) w w' := by
  obtain ⟨b1, b2⟩ := mul_bd (x := g.domains) (y := g.spare) (A := 8) (B := 4) (by have := h.d; omega) h.d.2 (by have := h.p; omega) h.p.2 (by omega)
  obtain ⟨b3, b4⟩ := mul_bd (x := g.domains) (y := g.zones - g.spare - 2) (A := 8) (B := 64) (by have := h.d; omega) h.d.2 (by have := h.p; have := h.z; omega) (by have := h.p; have := h.z; omega) (by omega)
  obtain ⟨b5, b6⟩ := mul_bd (x := g.domains - 1) (y := g.zones - g.spare - 2) (A := 7) (B := 64) (by have := h.d; omega) (by have := h.d; omega) (by have := h.p; have := h.z; omega) (by have := h.p; have := h.z; omega) (by omega)
  obtain ⟨hz1, hz2⟩ := h.z
  obtain ⟨hp1, hp2⟩ := h.p
  obtain ⟨hd1, hd2⟩ := h.d
  clear h
  unfold geomV
  go_enter Tryz.func77, Tryz.ntmps77
  go_wp2_with fail
  all_goals
    go_region_held3 (fun W => W.cell? ⟨w.heap.size, 0, none⟩ = some (.int .i64 g.domains) ∧ W.cell? ⟨w.heap.size, 4, none⟩ = some (.int .i64 g.spare)) (go_keep)
      (first | (go_at_call 127; refine (half_calls _ (by omega) (by omega) _).mono ?_; rintro e w' ⟨rfl, rfl⟩))
    go_wp2
    go_ret
    refine ⟨ret_int ?_, (by repeat (first | exact Keeps.refl _ _ | refine Keeps.alloc ?_ _ | refine Keeps.drew ?_ | refine Keeps.drewN ?_ _ | refine Keeps.trans ?_ (by assumption)))⟩
    unfold GeomS.segs
    simp only [Int.min_def]
    first | (rw [if_pos (by omega)]) | (rw [if_neg (by omega)])
    rw [IntWalk.i64_in (g.domains * g.spare) (by omega), IntWalk.i64_in (_ / 2 - 1) (by omega), IntWalk.i64_in _ (by omega)]

def GeomS.big (g : GeomS) : Bool := decide (g.domains < 3) || decide (8 < g.domains) || decide (g.zones < 1) || decide (64 < g.zones) || decide (g.size < 4) || decide (64 < g.size) || decide (g.blocks < 1) || decide (256 < g.blocks) || decide (g.spare < 0) || decide (4 < g.spare) || decide (g.opn < 4) || decide (64 < g.opn)

theorem GeomS.big_eq (g : GeomS) : g.big = !g.small := by
  unfold GeomS.big GeomS.small inB
  rw [Bool.eq_iff_iff]
  simp only [Bool.or_eq_true, decide_eq_true_eq, Bool.not_eq_true', Bool.and_eq_false_iff, decide_eq_false_iff_not]
  omega

set_option maxHeartbeats 1000000 in
theorem refRight_big (g : GeomS) (h : g.small = false) (w : World) : Calls Tryz.prog 27 #[geomV g] w fun e w' => e = .returned (.bool false) ∧ w' = w.alloc (refB g) := by
  have hb : g.big = true := by rw [GeomS.big_eq, h]; rfl
  clear h
  unfold GeomS.big at hb
  cases h0 : decide (g.domains < 3)
  cases h1 : decide (8 < g.domains)
  cases h2 : decide (g.zones < 1)
  cases h3 : decide (64 < g.zones)
  cases h4 : decide (g.size < 4)
  cases h5 : decide (64 < g.size)
  cases h6 : decide (g.blocks < 1)
  cases h7 : decide (256 < g.blocks)
  cases h8 : decide (g.spare < 0)
  cases h9 : decide (4 < g.spare)
  cases h10 : decide (g.opn < 4)
  cases h11 : decide (64 < g.opn)
  · simp [*] at hb
  all_goals
    clear hb
    unfold geomV
    go_enter Tryz.func27, Tryz.ntmps27
    go_wp2
    go_ret
    exact ⟨rfl, rfl⟩

set_option maxHeartbeats 1000000 in
set_option maxRecDepth 100000 in
theorem refRight_small (g : GeomS) (h : g.small = true) (w : World) : Calls Tryz.prog 27 #[geomV g] w fun e w' => e = .returned (.bool g.right) ∧ Keeps (fun _ => False) w w' := by
  have hs := (GeomS.small_iff g).1 h
  have hb : g.big = false := by rw [GeomS.big_eq, h]; rfl
  unfold GeomS.big at hb
  simp only [Bool.or_eq_false_iff] at hb
  obtain ⟨⟨⟨⟨⟨⟨⟨⟨⟨⟨⟨k0, k1⟩, k2⟩, k3⟩, k4⟩, k5⟩, k6⟩, k7⟩, k8⟩, k9⟩, k10⟩, k11⟩ := hb
  obtain ⟨hb1, hb2⟩ := hs.b
  obtain ⟨hs1, hs2⟩ := hs.s
  have hsb := g.segs_bd hs
  obtain ⟨p1, p2⟩ := mul_bd (x := g.size) (y := g.segs) (A := 64) (B := 1000) (by omega) hs2 hsb.1 hsb.2 (by omega)
  have HS := hid hs
  have w1 : IntKind.i64.wrap (2 * g.blocks) = 2 * g.blocks := IntWalk.i64_in _ (by omega)
  have w2 : IntKind.i64.wrap (g.size * g.segs) = g.size * g.segs := IntWalk.i64_in _ (by omega)
  have hr : g.right = (decide (g.parts ≤ g.size) && decide (2 * g.blocks ≤ g.size * g.segs)) := by simp [GeomS.right, h]
  rw [hr]
  clear hs hsb hr h
  have HF : Hid (∀ W, Keeps (fun _ => False) (w.alloc (refB g)) W → W.cell? ⟨w.heap.size, 0, none⟩ = some (.int .i64 g.domains) ∧ W.cell? ⟨w.heap.size, 1, none⟩ = some (.int .i64 g.zones) ∧ W.cell? ⟨w.heap.size, 2, none⟩ = some (.int .i64 g.size) ∧ W.cell? ⟨w.heap.size, 3, none⟩ = some (.int .i64 g.blocks) ∧ W.cell? ⟨w.heap.size, 4, none⟩ = some (.int .i64 g.spare) ∧ W.cell? ⟨w.heap.size, 5, none⟩ = some (.int .i64 g.opn)) := hid fun W hW => by
    have h := hW.heap (heap_new w (refB g)) (fun h => h)
    exact ⟨cell_of h 0, cell_of h 1, cell_of h 2, cell_of h 3, cell_of h 4, cell_of h 5⟩
  cases h1 : decide (g.parts ≤ g.size)
  rotate_left
  cases h2 : decide (2 * g.blocks ≤ g.size * g.segs)
  all_goals
    unfold geomV
    go_enter Tryz.func27, Tryz.ntmps27
    go_wp2_with fail
    refine wp_region_still (by kernel_rfl) (by kernel_rfl) ?_
    repeat (first | (refine still_pass ?_ ?_; (focus (first | (go_simp; done) | rfl)); try simp only [Act.put, List.setIfInBounds_toArray, List.set_cons_succ, List.set_cons_zero]) | (apply still_step; (focus (go_simp; done)); (focus (intro W hW; unfold Oper.quietAt; (obtain ⟨c0, c1, c2, c3, c4, c5⟩ := HF.out W hW); go_simp; first | done | with_reducible rfl | (first | (go_at_call 76; exact still_call_box hW (refParts_calls g (by omega) (by omega) W)) | (go_at_call 77; exact still_call hW (refSegs_calls g HS.out W))) | exact ⟨rfl, rfl⟩)); try simp only [Act.put, List.setIfInBounds_toArray, List.set_cons_succ, List.set_cons_zero]))
    refine wpQuiet_nil ?_
    intro W hW
    go_wp2
    go_ret
    exact ⟨rfl, ((by repeat (first | exact Keeps.refl _ _ | refine Keeps.alloc ?_ _ | refine Keeps.drew ?_ | refine Keeps.drewN ?_ _ | refine Keeps.trans ?_ (by assumption))) : Keeps (fun _ => False) w _).trans hW⟩

theorem refRight_calls (g : GeomS) (w : World) : Calls Tryz.prog 27 #[geomV g] w fun e w' => e = .returned (.bool g.right) ∧ Keeps (fun _ => False) w w' := by
  cases h : g.small with
  | true => exact refRight_small g h w
  | false =>
    have hr : g.right = false := by simp [GeomS.right, h]
    rw [hr]
    exact (refRight_big g h w).mono fun e w' ⟨a, b⟩ => ⟨a, by rw [b]; exact (Keeps.refl _ _).alloc _⟩
end Go.Rv

/- Drives: what they hold; devices stay good; the map of marks. -/
namespace Go.Rv
open Go Go.RowKit Go.Proofs

/-- what holds of a device at all times. -/
structure DevS.Good (D : DevS) : Prop where
  ok : D.Ok
  room : ∀ i, i < D.nz → (D.z i).state < 2 → ((D.z i).l.length : Int) < D.size
  st : ∀ i, i < D.nz → 0 ≤ (D.z i).state ∧ (D.z i).state ≤ 4
  safe : ∀ i, i < D.nz → 0 ≤ (D.z i).safe ∧ (D.z i).safe ≤ (D.z i).l.length
  emp : ∀ i, i < D.nz → (D.z i).state = 0 → (D.z i).l = []

theorem DevS.Good.len {D : DevS} (h : D.Good) : ∀ i, i < D.nz → ((D.z i).l.length : Int) ≤ D.size := h.ok.len

structure ZoneS.Good (size : Int) (Z : ZoneS) : Prop where
  len : (Z.l.length : Int) ≤ size
  sec : ∀ s, s ∈ Z.l → s.length = 64
  room : Z.state < 2 → (Z.l.length : Int) < size
  st : 0 ≤ Z.state ∧ Z.state ≤ 4
  safe : 0 ≤ Z.safe ∧ Z.safe ≤ Z.l.length
  emp : Z.state = 0 → Z.l = []

theorem DevS.Good.zone {D : DevS} (h : D.Good) {i : Nat} (hi : i < D.nz) : (D.z i).Good D.size :=
  ⟨h.ok.len i hi, h.ok.sec i hi, h.room i hi, h.st i hi, h.safe i hi, h.emp i hi⟩
theorem DevS.Good.mk' {D : DevS} (h1 : 1 ≤ D.nz ∧ D.nz ≤ 512) (h2 : 1 ≤ D.size ∧ D.size ≤ 64) (h3 : 1 ≤ D.opn ∧ D.opn ≤ 64) (h : ∀ i, i < D.nz → (D.z i).Good D.size) : D.Good :=
  ⟨⟨h1, h2, h3, fun i hi => (h i hi).len, fun i hi => (h i hi).sec⟩, fun i hi => (h i hi).room, fun i hi => (h i hi).st, fun i hi => (h i hi).safe, fun i hi => (h i hi).emp⟩
theorem DevS.Good.setz {D : DevS} (h : D.Good) (i : Nat) {Z : ZoneS} (hz : Z.Good D.size) : (D.setz i Z).Good :=
  .mk' h.ok.nz h.ok.size h.ok.opn fun j hj => by
    by_cases e : j = i
    · subst e; simpa [DevS.setz] using hz
    · simpa [DevS.setz, e] using h.zone hj
theorem DevS.Good.count {D : DevS} (h : D.Good) (n : Int) (b : Bool) : ({ D with n := n, down := b } : DevS).Good := .mk' h.ok.nz h.ok.size h.ok.opn fun _ hj => h.zone hj
theorem DevS.Good.begin {D : DevS} (h : D.Good) (z : Int) : (D.begin z).1.Good := by
  unfold DevS.begin
  split
  · exact h
  · split
    · exact h.count _ _
    · exact h
theorem DevS.begin_nz (D : DevS) (z : Int) : (D.begin z).1.nz = D.nz ∧ (D.begin z).1.size = D.size ∧ (D.begin z).1.z = D.z ∧ (D.begin z).1.opn = D.opn ∧ (D.begin z).1.down = D.down := by
  unfold DevS.begin
  split
  · exact ⟨rfl, rfl, rfl, rfl, rfl⟩
  · split <;> exact ⟨rfl, rfl, rfl, rfl, rfl⟩
theorem ZoneS.Good.append {size : Int} {Z : ZoneS} (h : Z.Good size) {s : List UInt8} (hs : s.length = 64) : (Z.append size s).1.Good size := by
  have h1 := h.st; have h2 := h.room; have h3 := h.safe
  unfold ZoneS.append
  split
  · exact h
  · split
    · exact h
    · split
      · exact h
      · have h4 := h2 (by omega)
        refine ⟨by simp; omega, fun t ht => ?_, fun hst => ?_, ?_, ?_, fun hst => ?_⟩
        · simp at ht
          rcases ht with ht | rfl
          · exact h.sec t ht
          · exact hs
        · simp at hst ⊢
          split at hst <;> omega
        · simp; split <;> omega
        · simp; omega
        · simp at hst; split at hst <;> omega
theorem DevS.Good.append {D : DevS} (h : D.Good) (z : Int) {s : List UInt8} (hs : s.length = 64) : (D.append z s).1.Good := by
  unfold DevS.append
  split
  · exact h.begin z
  · split
    · exact h.begin z
    · rename_i hb _
      obtain ⟨hh, _⟩ := DevS.begin_ok (by simpa using hb)
      obtain ⟨i, rfl, hi⟩ := DevS.has_ex hh
      refine (h.begin _).setz _ ?_
      rw [(DevS.begin_nz D _).2.1]
      exact (h.zone (by simpa using hi)).append hs
theorem ZoneS.Good.reset {size : Int} {Z : ZoneS} (h : Z.Good size) (hs : 1 ≤ size) : Z.reset.1.Good size := by
  unfold ZoneS.reset
  split
  · exact h
  · split
    · exact h
    · exact ⟨by simp; omega, by simp, by simp; omega, by simp, by simp, by simp⟩
theorem DevS.Good.reset {D : DevS} (h : D.Good) (z : Int) : (D.reset z).1.Good := by
  unfold DevS.reset
  split
  · exact h.begin z
  · rename_i hb
    obtain ⟨hh, _⟩ := DevS.begin_ok (by simpa using hb)
    obtain ⟨i, rfl, hi⟩ := DevS.has_ex hh
    refine (h.begin _).setz _ ?_
    rw [(DevS.begin_nz D _).2.1]
    exact (h.zone (by simpa using hi)).reset h.ok.size.1
theorem ZoneS.Good.finish {size : Int} {Z : ZoneS} (h : Z.Good size) : Z.finish.1.Good size := by
  unfold ZoneS.finish
  split
  · exact h
  · split
    · exact h
    · exact ⟨h.len, h.sec, by simp, by simp, h.safe, by simp⟩
theorem DevS.Good.finish {D : DevS} (h : D.Good) (z : Int) : (D.finish z).1.Good := by
  unfold DevS.finish
  split
  · exact h.begin z
  · rename_i hb
    obtain ⟨hh, _⟩ := DevS.begin_ok (by simpa using hb)
    obtain ⟨i, rfl, hi⟩ := DevS.has_ex hh
    refine (h.begin _).setz _ ?_
    rw [(DevS.begin_nz D _).2.1]
    exact (h.zone (by simpa using hi)).finish
theorem ZoneS.Good.flush {size : Int} {Z : ZoneS} (h : Z.Good size) : Z.flush.Good size := ⟨h.len, h.sec, h.room, h.st, by simp [ZoneS.flush], h.emp⟩
theorem DevS.Good.flush {D : DevS} (h : D.Good) : D.flush.1.Good := by
  unfold DevS.flush
  split
  · exact h
  · refine .mk' h.ok.nz h.ok.size h.ok.opn fun i hi => ?_
    have := h.zone hi
    simp only [DevS.flushTo]
    split
    · exact this.flush
    · exact this
theorem DevS.Good.read {D : DevS} (h : D.Good) (z off : Int) : (D.read z off).1.Good := by
  unfold DevS.read
  split <;> exact h.begin z

/-- an event that is to come, or came. -/
structure EvS where
  at_ : Int
  kind : Int
  zone : Int
  off : Int
  pat : List UInt8
structure DriveS where
  d : DevS
  coming : List EvS
  happened : List EvS

def DevS.spoil (D : DevS) (z off : Int) (p : List UInt8) : DevS :=
  if D.has z ∧ 0 ≤ off ∧ off < (D.z z.toNat).l.length then D.setz z.toNat { D.z z.toNat with l := (D.z z.toNat).l.set off.toNat (((D.z z.toNat).l.getD off.toNat []).zipWith (· ^^^ ·) p) } else D
def DriveS.happen (D : DriveS) (e : EvS) : DriveS :=
  ⟨if e.kind = 1 then D.d.spoil e.zone e.off e.pat else if e.kind = 2 then (D.d.failz e.zone 3).1 else if e.kind = 3 then (D.d.failz e.zone 4).1 else if e.kind = 4 then { D.d with down := true } else D.d, D.coming, D.happened ++ [e]⟩
def DriveS.dueF : Nat → DriveS → DriveS
  | 0, D => D
  | f + 1, D => match D.coming with
    | [] => D
    | e :: es => if D.d.down = false ∧ e.at_ ≤ D.d.n then DriveS.dueF f (DriveS.happen { D with coming := es } e) else D
/-- all happens whose time has come. -/
def DriveS.due (D : DriveS) : DriveS := DriveS.dueF D.coming.length D
def DriveS.begin (D : DriveS) (z : Int) : DriveS := if D.d.has z then D.due else D
def DriveS.append (D : DriveS) (z : Int) (s : List UInt8) : DriveS × Int × Int := ({ D.begin z with d := ((D.begin z).d.append z s).1 }, ((D.begin z).d.append z s).2)
def DriveS.read (D : DriveS) (z off : Int) : DriveS × List UInt8 × Int := ({ D.begin z with d := ((D.begin z).d.read z off).1 }, ((D.begin z).d.read z off).2)
def DriveS.reset (D : DriveS) (z : Int) : DriveS × Int := ({ D.begin z with d := ((D.begin z).d.reset z).1 }, ((D.begin z).d.reset z).2)
def DriveS.finish (D : DriveS) (z : Int) : DriveS × Int := ({ D.begin z with d := ((D.begin z).d.finish z).1 }, ((D.begin z).d.finish z).2)
def DriveS.flush (D : DriveS) : DriveS × Int := ({ D.due with d := D.due.d.flush.1 }, D.due.d.flush.2)

theorem DriveS.due_calm {D : DriveS} (h : D.coming = []) : D.due = D := by unfold DriveS.due; rw [h]; rfl
theorem DriveS.begin_calm {D : DriveS} (h : D.coming = []) (z : Int) : D.begin z = D := by unfold DriveS.begin; rw [DriveS.due_calm h]; split <;> rfl

/-- the owners of a drive's blocks. -/
def drvTag (t : Nat) : Prop := t = 2 ∨ devTag t

structure DriveHead (w : World) (own : Nat → Nat) (pb db : Nat) (D : DriveS) (mb c : Nat) : Prop where
  mine : own pb = 2
  minem : own mb = 2
  calm : D.coming = []
  still : D.happened = []
  good : D.d.Good
  heap : w.heap[pb]? = some (.cells #[.pointer (some ⟨db, 0, none⟩), .slice none 0 0, .slice none 0 0, .map (some mb)] 166 (0, 0))
  marks : w.heap[mb]? = some (.map #[] c)

structure DriveAt (w : World) (own : Nat → Nat) (pb db : Nat) (D : DriveS) : Prop where
  head : ∃ mb c, DriveHead w own pb db D mb c
  dev : DevAt w own db D.d

theorem DriveHead.keeps {w w' : World} {own : Nat → Nat} {pb db : Nat} {D : DriveS} {mb c : Nat} {M : Nat → Prop} (h : DriveHead w own pb db D mb c) (hk : Keeps M w w') (h1 : ¬ M pb) (h2 : ¬ M mb) : DriveHead w' own pb db D mb c :=
  ⟨h.mine, h.minem, h.calm, h.still, h.good, hk.heap h.heap h1, hk.heap h.marks h2⟩
theorem DriveHead.kept {w w' : World} {own own' : Nat → Nat} {pb db : Nat} {D : DriveS} {mb c : Nat} {A : Nat → Prop} (h : DriveHead w own pb db D mb c) (hs : Step A w own w' own') (hA : ¬ A 2) : DriveHead w' own' pb db D mb c :=
  ⟨hs.own h.heap h.mine, hs.own h.marks h.minem, h.calm, h.still, h.good, hs.heap h.heap (by rw [h.mine]; exact hA), hs.heap h.marks (by rw [h.minem]; exact hA)⟩
theorem DriveAt.keeps {w w' : World} {own : Nat → Nat} {pb db : Nat} {D : DriveS} {M : Nat → Prop} (h : DriveAt w own pb db D) (hk : Keeps M w w') (hM : ∀ k, drvTag (own k) → ¬ M k) : DriveAt w' own pb db D := by
  obtain ⟨⟨mb, c, h1⟩, h2⟩ := h
  exact ⟨⟨mb, c, h1.keeps hk (hM _ (.inl h1.mine)) (hM _ (.inl h1.minem))⟩, h2.keeps hk fun k hk => hM k (.inr hk)⟩
theorem DriveAt.kept {w w' : World} {own own' : Nat → Nat} {pb db : Nat} {D : DriveS} {A : Nat → Prop} (h : DriveAt w own pb db D) (hs : Step A w own w' own') (hA : ∀ t, drvTag t → ¬ A t) : DriveAt w' own' pb db D := by
  obtain ⟨⟨mb, c, h1⟩, h2⟩ := h
  exact ⟨⟨mb, c, h1.kept hs (hA _ (.inl rfl))⟩, h2.kept hs fun t ht => hA t (.inr ht)⟩
theorem DriveAt.still {w w' : World} {own : Nat → Nat} {pb db : Nat} {D : DriveS} (h : DriveAt w own pb db D) (hk : Keeps (fun _ => False) w w') : DriveAt w' own pb db D := h.keeps hk fun _ _ h => h
theorem DriveAt.good {w : World} {own : Nat → Nat} {pb db : Nat} {D : DriveS} (h : DriveAt w own pb db D) : D.d.Good := by obtain ⟨⟨_, _, h1⟩, _⟩ := h; exact h1.good
/-- the device has turned. -/
theorem DriveHead.dev {w w' : World} {own own' : Nat → Nat} {pb db : Nat} {D : DriveS} {mb c : Nat} (h : DriveHead w own pb db D mb c) (hs : Step devTag w own w' own') {d' : DevS} (hd : DevAt w' own' db d') (hg : d'.Good) : DriveHead w' own' pb db { D with d := d' } mb c := by
  have := h.kept hs (by unfold devTag; omega)
  exact ⟨this.mine, this.minem, this.calm, this.still, hg, this.heap, this.marks⟩
theorem DriveHead.cells {w : World} {own : Nat → Nat} {pb db : Nat} {D : DriveS} {mb c : Nat} (h : DriveHead w own pb db D mb c) : w.cell? ⟨pb, 0, none⟩ = some (.pointer (some ⟨db, 0, none⟩)) ∧ w.cell? ⟨pb, 1, none⟩ = some (.slice none 0 0) ∧ w.cell? ⟨pb, 3, none⟩ = some (.map (some mb)) ∧ pb < w.heap.size ∧ mb < w.heap.size :=
  ⟨cell_of h.heap 0, cell_of h.heap 1, cell_of h.heap 3, lt_of h.heap, lt_of h.marks⟩

theorem Step.drv {w w' : World} {own own' : Nat → Nat} (h : Step devTag w own w' own') : Step drvTag w own w' own' := h.mono fun _ h => .inr h

theorem set_same (w : World) (r : Nat) (o : Obj) (h : w.heap[r]? = some o) : ({ w with heap := w.heap.setIfInBounds r o } : World) = w := by
  have : w.heap.setIfInBounds r o = w.heap := by
    apply Array.ext_getElem?
    intro k
    rw [Array.getElem?_setIfInBounds]
    split
    · rename_i e; subst e; split
      · exact h.symm
      · rename_i hh; rw [Array.getElem?_eq_none (by omega)]
    · rfl
  rw [this]

theorem checkPlace (a b : Int) (w : World) : (Instr.checkKey true 10000 243 (.agg #[.int .i64 a, .int .i64 b])).run Tryz.prog w = .ok () w := by
  kernel_rfl

theorem del_empty (ty : TypeId) (w : World) (r c : Nat) (a b : Int) (h : w.heap[r]? = some (.map #[] c)) : (Builtin.delete_ #[164, 243] ty #[.map (some r), .agg #[.int .i64 a, .int .i64 b]]).run Tryz.prog w = .ok (.tuple #[]) w := by
  have hc := checkPlace a b w
  have hg := MapKept.run_getObj_map (P := Tryz.prog) h
  have hs := MapKept.run_setObj_map (P := Tryz.prog) (.map #[] c) h
  rw [set_same w r _ h] at hs
  have hf : (Instr.findKey 243 (.agg #[.int .i64 a, .int .i64 b]) []).run Tryz.prog w = .ok none w := by kernel_rfl
  unfold Builtin.delete_
  simp only [Sem.run_bind, List.getElem?_toArray, List.getElem?_cons_zero, List.getElem?_cons_succ, run_underlying Tryz.underlying164, Result.andThen_ok, hg]
  simp [hc, hf, hs, Sem.run_bind]

theorem wpList_delete {ops : Array Oper} {rest : List Oper} {o : Oper} {f : Act} {E : Exit → Act → World → Prop} {w : World} {r c : Nat} {a b : Int} (hgd : o.guard = none) (m k : Operand)
    (ho : o.op = .call { callee := .builtin .delete, args := #[m, k], argTypes := #[164, 243] }) (hm : f.eval m = .map (some r)) (hk : f.eval k = .agg #[.int .i64 a, .int .i64 b]) (hh : w.heap[r]? = some (.map #[] c))
    (h : wpList Tryz.prog ops E rest (f.put o.dst (.tuple #[])) w) : wpList Tryz.prog ops E (o :: rest) f w :=
  wpList_plain hgd fun K hK => by
    have q1 := del_empty o.type w r c a b hh
    unfold Oper.wp execOp
    simp only [ho, resolve, invoke, builtin, Sem.run_bind, Sem.run_pure, Result.andThen_ok, List.map_toArray, List.map_cons, List.map_nil, hm, hk, q1]
    exact hK _ _ h
end Go.Rv

/- Drives: the walks. -/
namespace Go.Rv
open Go Go.RowKit Go.Proofs
attribute [local irreducible] wpQuiet
attribute [local go_sem ↓] ld_Sector st_Sector al_Sector bs_Sector
attribute [local go_sem] cellsAt_new0 cellsAt_lt cellsAt_drew size_bytesV

theorem pdevice_calls (own : Nat → Nat) (pb db : Nat) (D : DriveS) (w : World) (h : DriveAt w own pb db D) : Calls Tryz.prog 36 #[.pointer (some ⟨pb, 0, none⟩)] w fun e w' => e = .returned (.pointer (some ⟨db, 0, none⟩)) ∧ w = w' := by
  obtain ⟨⟨mb, c, h1⟩, h2⟩ := h
  obtain ⟨c0, -⟩ := h1.cells
  clear h1 h2
  go_enter Tryz.func36, Tryz.ntmps36
  go_wp2
  go_ret
  exact ⟨rfl, rfl⟩

set_option maxHeartbeats 1000000 in
set_option maxRecDepth 100000 in
theorem due_calls (own : Nat → Nat) (pb db : Nat) (D : DriveS) (w : World) (h : DriveAt w own pb db D) (hset : Settled own w) : Calls Tryz.prog 118 #[.pointer (some ⟨pb, 0, none⟩)] w fun e w' =>
    e = .returned (.tuple #[]) ∧ ∃ own', DriveAt w' own' pb db D.due ∧ Step drvTag w own w' own' ∧ Settled own' w' := by
  have H := hid h
  have HS := hid hset
  have hcalm : D.due = D := by obtain ⟨⟨mb, c, h1⟩, h2⟩ := h; exact DriveS.due_calm h1.calm
  rw [hcalm]
  have HF : Hid (∀ W, Keeps (fun _ => False) w W → W.cell? ⟨pb, 0, none⟩ = some (.pointer (some ⟨db, 0, none⟩)) ∧ W.cell? ⟨pb, 1, none⟩ = some (.slice none 0 0)) := hid fun W hW => by
    obtain ⟨⟨mb, c, h1⟩, h2⟩ := H.out.still hW
    exact ⟨h1.cells.1, h1.cells.2.1⟩
  have HD : Hid (∀ W, Keeps (fun _ => False) w W → Calls Tryz.prog 166 #[.pointer (some ⟨db, 0, none⟩)] W fun e w' => e = .returned (.bool D.d.down) ∧ W = w') := hid fun W hW => ddown_calls own db D.d W (H.out.still hW).dev
  clear h hset hcalm
  cases hd : D.d.down with
  | true =>
    rw [hd] at HD
    clear hd
    go_enter Tryz.func118, Tryz.ntmps118
    go_wp2_with fail
    refine wp_loop_once ?_
    go_wp2_with fail
    refine wp_region_still (by kernel_rfl) (by kernel_rfl) ?_
    repeat (first | (refine still_pass ?_ ?_; (focus (first | (go_simp; done) | rfl)); try simp only [Act.put, List.setIfInBounds_toArray, List.set_cons_succ, List.set_cons_zero]) | (apply still_step; (focus (go_simp; done)); (focus (intro W hW; unfold Oper.quietAt; (obtain ⟨c0, c1⟩ := HF.out W hW); go_simp; first | done | with_reducible rfl | (go_at_call 166; exact still_call_same hW (HD.out W hW)) | exact ⟨rfl, rfl⟩)); try simp only [Act.put, List.setIfInBounds_toArray, List.set_cons_succ, List.set_cons_zero]))
    refine wpQuiet_nil ?_
    intro W hW
    go_wp2_with fail
    go_end0
    exact ⟨rfl, own, H.out.still hW, Step.kept (hW.mono fun _ _ h => h.elim) HS.out⟩
  | false =>
    rw [hd] at HD
    clear hd
    go_enter Tryz.func118, Tryz.ntmps118
    go_wp2_with fail
    refine wp_loop_once ?_
    go_wp2_with fail
    refine wp_region_still (by kernel_rfl) (by kernel_rfl) ?_
    repeat (first | (refine still_pass ?_ ?_; (focus (first | (go_simp; done) | rfl)); try simp only [Act.put, List.setIfInBounds_toArray, List.set_cons_succ, List.set_cons_zero]) | (apply still_step; (focus (go_simp; done)); (focus (intro W hW; unfold Oper.quietAt; (obtain ⟨c0, c1⟩ := HF.out W hW); go_simp; first | done | with_reducible rfl | (go_at_call 166; exact still_call_same hW (HD.out W hW)) | exact ⟨rfl, rfl⟩)); try simp only [Act.put, List.setIfInBounds_toArray, List.set_cons_succ, List.set_cons_zero]))
    refine wpQuiet_nil ?_
    intro W hW
    go_wp2_with fail
    go_end0
    exact ⟨rfl, own, H.out.still hW, Step.kept (hW.mono fun _ _ h => h.elim) HS.out⟩

set_option maxHeartbeats 1000000 in
set_option maxRecDepth 100000 in
theorem dbegin_calls (own : Nat → Nat) (pb db : Nat) (D : DriveS) (z : Int) (w : World) (h : DriveAt w own pb db D) (hset : Settled own w) : Calls Tryz.prog 179 #[.pointer (some ⟨pb, 0, none⟩), .int .i64 z] w fun e w' =>
    e = .returned (.tuple #[]) ∧ ∃ own', DriveAt w' own' pb db (D.begin z) ∧ Step drvTag w own w' own' ∧ Settled own' w' := by
  have H := hid h
  have HS := hid hset
  have hz := dzones_calls own db D.d w h.dev
  have HZ := hid hz
  obtain ⟨⟨mb, c, h1⟩, h2⟩ := h
  obtain ⟨c0, -⟩ := h1.cells
  clear h1 h2 hset hz
  unfold DriveS.begin DevS.has
  by_cases k1 : 0 ≤ z
  · have d1 : decide (0 ≤ z) = true := by simpa using k1
    by_cases k2 : z < D.d.nz
    · have d2 : decide (z < D.d.nz) = true := by simpa using k2
      rw [if_pos (by simp [k1, k2])]
      clear k1 k2
      go_enter Tryz.func179, Tryz.ntmps179
      go_wp2_with fail
      refine Calls.mono HZ.out ?_
      rintro e w1 ⟨rfl, rfl⟩
      go_wp2_with fail
      refine Calls.mono (due_calls own pb db D _ H.out HS.out) ?_
      rintro e w1 ⟨rfl, hx⟩
      have HX := hid hx
      clear hx
      go_wp2
      go_end0
      exact ⟨rfl, HX.out⟩
    · have d2 : decide (z < D.d.nz) = false := by simpa using k2
      rw [if_neg (by simp [k2])]
      clear k1 k2
      go_enter Tryz.func179, Tryz.ntmps179
      go_wp2_with fail
      refine Calls.mono HZ.out ?_
      rintro e w1 ⟨rfl, rfl⟩
      go_wp2_with fail
      go_end0
      exact ⟨rfl, own, H.out, Step.kept (Keeps.refl _ _) HS.out⟩
  · have d1 : decide (0 ≤ z) = false := by simpa using k1
    rw [if_neg (by simp [k1])]
    clear k1
    go_enter Tryz.func179, Tryz.ntmps179
    go_wp2_with fail
    go_end0
    exact ⟨rfl, own, H.out, Step.kept (Keeps.refl _ _) HS.out⟩

set_option maxHeartbeats 1000000 in
set_option maxRecDepth 100000 in
theorem forget_calls (own : Nat → Nat) (pb db : Nat) (D : DriveS) (z s : Int) (w : World) (h : DriveAt w own pb db D) (hset : Settled own w) (h1 : 0 ≤ s) (h2 : s ≤ 1000) : Calls Tryz.prog 88 #[.pointer (some ⟨pb, 0, none⟩), .int .i64 z, .int .i64 s] w fun e w' =>
    e = .returned (.tuple #[]) ∧ ∃ own', DriveAt w' own' pb db D ∧ Step drvTag w own w' own' ∧ Settled own' w' := by
  have H := hid h
  have HS := hid hset
  have hz := dsize_calls own db D.d w h.dev
  have HZ := hid hz
  have hsz := h.good.ok.size
  obtain ⟨⟨mb, c, g1⟩, g2⟩ := h
  obtain ⟨c0, c1, c3, -⟩ := g1.cells
  have HM := hid g1.marks
  clear g1 g2 hset hz
  go_enter Tryz.func88, Tryz.ntmps88
  go_wp2_with fail
  go_loop [6] (fun x => ∃ k : Int, 0 ≤ k ∧ k ≤ 1000 ∧ x = .int .i64 k) (fun x => (1000 - intOf x).toNat)
  case atStart => exact ⟨s, h1, h2, rfl⟩
  case round =>
    obtain ⟨k, hk0, hk, rfl⟩ := hrel
    by_cases c : k < D.d.size
    · have d1 : decide (k < D.d.size) = true := by simpa using c
      go_wp2_with fail
      refine Calls.mono HZ.out ?_
      rintro e w1 ⟨rfl, rfl⟩
      go_wp2_with fail
      rw [del_empty _ _ _ _ _ _ HM.out]
      go_wp2_with fail
      go_round
      case rel => exact ⟨k + 1, by omega, by omega, by go_num⟩
      case measure => simp [intOf]; omega
    · have d1 : decide (k < D.d.size) = false := by simpa using c
      go_wp2_with fail
      refine Calls.mono HZ.out ?_
      rintro e w1 ⟨rfl, rfl⟩
      go_wp2_with fail
      go_end0
      exact ⟨rfl, own, H.out, Step.kept (Keeps.refl _ _) HS.out⟩

theorem Step.to_trans {own own1 own2 : Nat → Nat} {w w1 w2 : World} {A B : Nat → Prop} (h : Step A w own w1 own1) (k : Step B w1 own1 w2 own2) (hs : ∀ t, B t → A t) : Step A w own w2 own2 := h.trans (k.mono hs)

set_option maxHeartbeats 1000000 in
set_option maxRecDepth 100000 in
theorem pappend_calls (own : Nat → Nat) (pb db : Nat) (D : DriveS) (z : Int) (s : List UInt8) (hs : s.length = 64) (w : World) (h : DriveAt w own pb db D) (hset : Settled own w) : Calls Tryz.prog 164 #[.pointer (some ⟨pb, 0, none⟩), .int .i64 z, secV s] w fun e w' =>
    e = .returned (.tuple #[.int .i64 (D.append z s).2.1, .int .i64 (D.append z s).2.2]) ∧ ∃ own', DriveAt w' own' pb db (D.append z s).1 ∧ Step drvTag w own w' own' ∧ Settled own' w' := by
  have H := hid h
  have HS := hid hset
  clear h hset
  unfold secV
  obtain ⟨w0, hw0⟩ : ∃ w0, w.alloc (.cells (bytesV s) 103) = w0 := ⟨_, rfl⟩
  have hk0 : Keeps (fun _ => False) w w0 := by rw [← hw0]; exact (by repeat (first | exact Keeps.refl _ _ | refine Keeps.alloc ?_ _ | refine Keeps.drew ?_ | refine Keeps.drewN ?_ _ | refine Keeps.trans ?_ (by assumption)))
  have hbx : w0.heap[w.heap.size]? = some (.cells (bytesV s) 103 (0, 0)) := by rw [← hw0]; exact heap_new _ _
  have H0 := hid (And.intro hk0 (And.intro hbx hw0))
  clear hk0 hbx hw0
  obtain ⟨D2, off, r, hD2⟩ : ∃ D2 off r, D.append z s = (D2, off, r) := ⟨_, _, _, rfl⟩
  rw [hD2]
  simp only []
  have HD2 := hid hD2
  clear hD2
  go_enter Tryz.func164, Tryz.ntmps164
  go_wp2_with fail
  rw [H0.out.2.2]
  refine Calls.mono (dbegin_calls own pb db D z _ (H.out.still H0.out.1) (HS.out.keeps H0.out.1)) ?_
  rintro e w1 ⟨rfl, own1, hd1, hs1, hset1⟩
  have hbx1 : w1.heap[w.heap.size]? = some (.cells (bytesV s) 103 (0, 0)) := hs1.heap H0.out.2.1 (fun h => by
    have := HS.out w.heap.size (Nat.le_refl _)
    rw [this] at h; unfold drvTag devTag at h; omega)
  have H1 := hid (And.intro hd1 (And.intro hs1 (And.intro hset1 hbx1)))
  clear hd1 hs1 hset1 hbx1
  have HF : Hid (∀ W, Keeps (fun _ => False) w1 W → W.cell? ⟨pb, 0, none⟩ = some (.pointer (some ⟨db, 0, none⟩)) ∧ cellsAt W ⟨w.heap.size, 0, none⟩ 64 = some (bytesV s)) := hid fun W hW => by
    obtain ⟨⟨mb, c, h1⟩, h2⟩ := H1.out.1.still hW
    exact ⟨h1.cells.1, cellsAt_full (hW.heap H1.out.2.2.2 id) (by simp [bytesV, hs])⟩
  have HC : Hid (∀ W, Keeps (fun _ => False) w1 W → Calls Tryz.prog 203 #[.pointer (some ⟨db, 0, none⟩), .int .i64 z, .agg (bytesV s)] W fun e w' =>
    e = .returned (.tuple #[.int .i64 off, .int .i64 r]) ∧ ∃ own', DriveAt w' own' pb db D2 ∧ Step drvTag w own w' own' ∧ Settled own' w') := hid fun W hW => by
    rw [show D2 = (D.append z s).1 by rw [HD2.out], show off = ((D.begin z).d.append z s).2.1 from (congrArg (fun x => x.2.1) HD2.out).symm, show r = ((D.begin z).d.append z s).2.2 from (congrArg (fun x => x.2.2) HD2.out).symm]
    obtain ⟨⟨mb, c, h1⟩, h2⟩ := H1.out.1.still hW
    have hst := H1.out.2.2.1.keeps hW
    refine (dappend_calls own1 db _ z s hs W h2 h1.good.ok hst).mono ?_
    rintro e w2 ⟨rfl, own2, hd2, hs2, hset2⟩
    refine ⟨rfl, own2, ⟨⟨mb, c, h1.dev hs2 hd2 (h1.good.append z hs)⟩, hd2⟩, ?_, hset2⟩
    exact ((Step.kept (A := drvTag) (H0.out.1.mono fun _ _ h => h.elim) HS.out).1.trans H1.out.2.1).trans ((Step.kept (A := drvTag) (hW.mono fun _ _ h => h.elim) H1.out.2.2.1).1.trans hs2.drv)
  go_wp2_with fail
  obtain ⟨f1, f2⟩ := HF.out w1 (Keeps.refl _ _)
  go_region_law (first | (go_simp; go_at_call 203; refine Calls.mono (HC.out _ (by repeat (first | exact Keeps.refl _ _ | refine Keeps.alloc ?_ _ | refine Keeps.drew ?_ | refine Keeps.drewN ?_ _ | refine Keeps.trans ?_ (by assumption)))) ?_; rintro e w2 ⟨rfl, hx2⟩; have HX2 := hid hx2; clear hx2))
  all_goals
    by_cases c : r = 0
    · subst c
      obtain ⟨own2, hd2, hs2, hset2⟩ := HX2.out
      have HD := hid hd2
      obtain ⟨⟨mb, cc, h1⟩, h2⟩ := hd2
      obtain ⟨c0, c1, c3, -⟩ := h1.cells
      have HM := hid h1.marks
      have HS2 := hid (And.intro hs2 hset2)
      clear h1 h2 hs2 hset2
      go_wp2_with fail
      rw [del_empty _ _ _ _ _ _ HM.out]
      go_wp2_with fail
      go_ret2
      exact ⟨rfl, own2, HD.out, HS2.out⟩
    · have b1 : (r == 0) = false := by simpa using c
      go_wp2_with fail
      go_ret2
      exact ⟨rfl, HX2.out⟩
end Go.Rv
