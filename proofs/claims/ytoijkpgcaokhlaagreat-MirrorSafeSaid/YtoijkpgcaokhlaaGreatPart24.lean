/- Entries: which may be. -/
import Derived.Test.YtoijkpgcaokhlaaGreatPart11
import Derived.Test.YtoijkpgcaokhlaaGreatPart13
import Derived.Stop.BytesEq
import Derived.Test.YtoijkpgcaokhlaaGreatPart14
import Derived.Test.YtoijkpgcaokhlaaGreatPart22
import Derived.Test.YtoijkpgcaokhlaaGreatPart08
set_option linter.unusedVariables false
set_option linter.unusedSimpArgs false
namespace Go.Rv
open Go Go.RowKit Go.Proofs
attribute [local irreducible] wpQuiet tab0 tabV
attribute [local go_sem ↓] ld_Block st_Block al_Block ld_Entry st_Entry al_Entry
attribute [local go_sem] cellsAt_new0 cellsAt_lt cellsAt_drew size_bytesV

/-- a record's entry: six numbers and 32 bytes. -/
structure EnS where
  kind : Int
  first : Int
  count : Int
  block : Int
  many : Int
  mate : Int
  bytes : List UInt8
def enC (e : EnS) : Array Value := (.int .i64 e.kind :: .int .i64 e.first :: .int .i64 e.count :: .int .i64 e.block :: .int .i64 e.many :: .int .i64 e.mate :: e.bytes.map byteV).toArray
theorem en_facts (e : EnS) (h : e.bytes.length = 32) : (enC e).size = 38 ∧ (enC e)[0]? = some (.int .i64 e.kind) ∧ (enC e)[1]? = some (.int .i64 e.first) ∧ (enC e)[2]? = some (.int .i64 e.count) ∧ (enC e)[3]? = some (.int .i64 e.block) ∧ (enC e)[4]? = some (.int .i64 e.many) ∧ (enC e)[5]? = some (.int .i64 e.mate) := by
  simp [enC, h]
theorem en_bytes (e : EnS) (j : Nat) (hj : j < e.bytes.length) : (enC e)[6 + j]? = some (byteV e.bytes[j]) := by
  rw [Nat.add_comm]
  simp [enC, hj]
theorem en_block (e : EnS) (h : e.bytes.length = 32) : (enC e).extract 6 38 = bytesV e.bytes := by
  simp [enC, bytesV]
  rw [List.take_of_length_le (by simp [h])]
def zero32 : List UInt8 := List.replicate 32 0
def EnS.counts (e : EnS) : Bool :=
  if e.kind = 1 then inB e.count 1 4 && decide (e.many = 0)
  else if e.kind = 2 then decide (e.count = 1) && inB e.many 1 (256 - e.block) && (e.bytes == zero32)
  else if e.kind = 3 then decide (e.count = 1) && decide (e.many = 0)
  else false
def EnS.right (e : EnS) : Bool := inB e.first 0 281474976710655 && inB e.block 0 255 && inB e.mate 0 65535 && e.counts

theorem ewithin_calls (n lo hi : Int) (w : World) : Calls Tryz.prog 207 #[.int .i64 n, .int .i64 lo, .int .i64 hi] w fun e w' => e = .returned (.bool (inB n lo hi)) ∧ w = w' := by
  by_cases h1 : lo ≤ n
  · have b1 : decide (lo ≤ n) = true := by simpa using h1
    go_enter Tryz.func207, Tryz.ntmps207
    go_wp2
    go_ret
    exact ⟨by simp [inB]; omega, rfl⟩
  · have b1 : decide (lo ≤ n) = false := by simpa using h1
    go_enter Tryz.func207, Tryz.ntmps207
    go_wp2
    go_ret
    exact ⟨by simp [inB]; omega, rfl⟩

theorem block_eq (xs ys : List UInt8) (hx : xs.length = 32) (hy : ys.length = 32) (w : World) : (binOp .eql 87 (.agg (bytesV xs)) (.agg (bytesV ys))).run Tryz.prog w = .ok (.bool (xs == ys)) w :=
  run_eql_bytes w 87 5 32 Tryz.underlying87 Tryz.underlying5 (fun w => by go_simp) xs ys hx hy
theorem block_zero (xs : List UInt8) (hx : xs.length = 32) (w : World) : (Op.equalIn 10000 87 (.agg (bytesV xs)) (.agg #[.int .u8 0, .int .u8 0, .int .u8 0, .int .u8 0, .int .u8 0, .int .u8 0, .int .u8 0, .int .u8 0, .int .u8 0, .int .u8 0, .int .u8 0, .int .u8 0, .int .u8 0, .int .u8 0, .int .u8 0, .int .u8 0, .int .u8 0, .int .u8 0, .int .u8 0, .int .u8 0, .int .u8 0, .int .u8 0, .int .u8 0, .int .u8 0, .int .u8 0, .int .u8 0, .int .u8 0, .int .u8 0, .int .u8 0, .int .u8 0, .int .u8 0, .int .u8 0])).run Tryz.prog w = .ok (xs == zero32) w :=
  run_equalIn_bytes w 9998 87 5 32 Tryz.underlying87 Tryz.underlying5 (fun w => by go_simp) xs zero32 hx rfl
theorem bd_Block0 (w : World) : (Instr.build 87 #[]).run Tryz.prog w = .ok (.agg (bytesV zero32)) w := by kernel_rfl

theorem en_cells {w : World} {b : Nat} {e : EnS} (h : e.bytes.length = 32) (hb : w.heap[b]? = some (.cells (enC e) 89 (0, 0))) : w.cell? ⟨b, 0, none⟩ = some (.int .i64 e.kind) ∧ w.cell? ⟨b, 1, none⟩ = some (.int .i64 e.first) ∧ w.cell? ⟨b, 2, none⟩ = some (.int .i64 e.count) ∧ w.cell? ⟨b, 3, none⟩ = some (.int .i64 e.block) ∧ w.cell? ⟨b, 4, none⟩ = some (.int .i64 e.many) ∧ w.cell? ⟨b, 5, none⟩ = some (.int .i64 e.mate) ∧ cellsAt w ⟨b, 0, none⟩ 38 = some (enC e) ∧ cellsAt w ⟨b, 6, none⟩ 32 = some (bytesV e.bytes) := by
  obtain ⟨q, q0, q1, q2, q3, q4, q5⟩ := en_facts e h
  refine ⟨(cell_of hb 0).trans q0, (cell_of hb 1).trans q1, (cell_of hb 2).trans q2, (cell_of hb 3).trans q3, (cell_of hb 4).trans q4, (cell_of hb 5).trans q5, cellsAt_full hb q, ?_⟩
  rw [cellsAt_row hb 6 32 (by omega)]
  exact congrArg some (en_block e h)

set_option maxHeartbeats 400000 in
set_option maxRecDepth 100000 in
theorem ecounts_calls (e : EnS) (h : e.bytes.length = 32) (hb : 0 ≤ e.block ∧ e.block ≤ 255) (w : World) : Calls Tryz.prog 208 #[.agg (enC e)] w fun r w' => r = .returned (.bool e.counts) ∧ Keeps (fun _ => False) w w' := by
  obtain ⟨c0, -, c2, c3, c4, -, -, c6⟩ := en_cells h (heap_new w (.cells (enC e) 89))
  have q := (en_facts e h).1
  have hw : IntKind.i64.wrap (256 - e.block) = 256 - e.block := IntWalk.i64_in _ (by omega)
  have heq := block_zero e.bytes h
  have HB := hid hb
  clear h hb
  unfold EnS.counts
  by_cases k1 : e.kind = 1
  · rw [if_pos k1]
    rw [k1] at c0
    have hk : Hid (e.kind = 1) := k1
    clear k1
    cases d1 : inB e.count 1 4 with
    | true =>
      by_cases d2 : e.many = 0
      all_goals
        go_enter Tryz.func208, Tryz.ntmps208
        go_wp2_with (go_at_call 207; refine (ewithin_calls _ _ _ _).mono ?_; rintro r w' ⟨rfl, rfl⟩; simp only [*])
        go_ret
        exact ⟨by simp [d2], (by repeat (first | exact Keeps.refl _ _ | refine Keeps.alloc ?_ _ | refine Keeps.drew ?_ | refine Keeps.drewN ?_ _ | refine Keeps.trans ?_ (by assumption)))⟩
    | false =>
      go_enter Tryz.func208, Tryz.ntmps208
      go_wp2_with (go_at_call 207; refine (ewithin_calls _ _ _ _).mono ?_; rintro r w' ⟨rfl, rfl⟩; simp only [*])
      go_ret
      exact ⟨by simp, (by repeat (first | exact Keeps.refl _ _ | refine Keeps.alloc ?_ _ | refine Keeps.drew ?_ | refine Keeps.drewN ?_ _ | refine Keeps.trans ?_ (by assumption)))⟩
  · rw [if_neg k1]
    by_cases k2 : e.kind = 2
    · rw [if_pos k2]
      rw [k2] at c0
      have hk : Hid (e.kind = 2) := k2
      clear k1 k2
      by_cases d1 : e.count = 1
      · rw [d1] at c2
        cases d2 : inB e.many 1 (256 - e.block) with
        | true =>
          go_enter Tryz.func208, Tryz.ntmps208
          go_wp2_with (go_at_call 207; refine (ewithin_calls _ _ _ _).mono ?_; rintro r w' ⟨rfl, rfl⟩; simp only [*])
          go_ret
          exact ⟨by simp [d1], (by repeat (first | exact Keeps.refl _ _ | refine Keeps.alloc ?_ _ | refine Keeps.drew ?_ | refine Keeps.drewN ?_ _ | refine Keeps.trans ?_ (by assumption)))⟩
        | false =>
          go_enter Tryz.func208, Tryz.ntmps208
          go_wp2_with (go_at_call 207; refine (ewithin_calls _ _ _ _).mono ?_; rintro r w' ⟨rfl, rfl⟩; simp only [*])
          go_ret
          exact ⟨by simp, (by repeat (first | exact Keeps.refl _ _ | refine Keeps.alloc ?_ _ | refine Keeps.drew ?_ | refine Keeps.drewN ?_ _ | refine Keeps.trans ?_ (by assumption)))⟩
      · have d1' : (e.count == 1) = false := by simpa using d1
        have D1 := hid d1
        clear d1
        go_enter Tryz.func208, Tryz.ntmps208
        go_wp2_with fail
        go_ret
        exact ⟨by simp [D1.out], (by repeat (first | exact Keeps.refl _ _ | refine Keeps.alloc ?_ _ | refine Keeps.drew ?_ | refine Keeps.drewN ?_ _ | refine Keeps.trans ?_ (by assumption)))⟩
    · rw [if_neg k2]
      by_cases k3 : e.kind = 3
      · rw [if_pos k3]
        rw [k3] at c0
        have hk : Hid (e.kind = 3) := k3
        clear k1 k2 k3
        by_cases d1 : e.count = 1
        · rw [d1] at c2
          go_enter Tryz.func208, Tryz.ntmps208
          go_wp2_with fail
          go_ret
          exact ⟨by simp [d1]; rfl, (by repeat (first | exact Keeps.refl _ _ | refine Keeps.alloc ?_ _ | refine Keeps.drew ?_ | refine Keeps.drewN ?_ _ | refine Keeps.trans ?_ (by assumption)))⟩
        · have d1' : (e.count == 1) = false := by simpa using d1
          have D1 := hid d1
          clear d1
          go_enter Tryz.func208, Tryz.ntmps208
          go_wp2_with fail
          go_ret
          exact ⟨by simp [D1.out], (by repeat (first | exact Keeps.refl _ _ | refine Keeps.alloc ?_ _ | refine Keeps.drew ?_ | refine Keeps.drewN ?_ _ | refine Keeps.trans ?_ (by assumption)))⟩
      · rw [if_neg k3]
        have k1' : (e.kind == 1) = false := by simpa using k1
        have k2' : (e.kind == 2) = false := by simpa using k2
        have k3' : (e.kind == 3) = false := by simpa using k3
        clear k1 k2 k3
        go_enter Tryz.func208, Tryz.ntmps208
        go_wp2_with fail
        go_ret
        exact ⟨rfl, (by repeat (first | exact Keeps.refl _ _ | refine Keeps.alloc ?_ _ | refine Keeps.drew ?_ | refine Keeps.drewN ?_ _ | refine Keeps.trans ?_ (by assumption)))⟩

set_option maxHeartbeats 400000 in
set_option maxRecDepth 100000 in
theorem eright_calls (e : EnS) (h : e.bytes.length = 32) (w : World) : Calls Tryz.prog 172 #[.agg (enC e)] w fun r w' => r = .returned (.bool e.right) ∧ Keeps (fun _ => False) w w' := by
  obtain ⟨-, c1, -, c3, -, c5, cw, -⟩ := en_cells h (heap_new w (.cells (enC e) 89))
  have q := (en_facts e h).1
  have H := hid h
  clear h
  unfold EnS.right
  cases h1 : inB e.first 0 281474976710655
  rotate_left
  cases h2 : inB e.block 0 255
  rotate_left
  cases h3 : inB e.mate 0 65535
  rotate_left
  · have hb : 0 ≤ e.block ∧ e.block ≤ 255 := by simpa [inB] using h2
    have HB := hid hb
    clear hb
    go_enter Tryz.func172, Tryz.ntmps172
    go_wp2_with (first | (go_at_call 207; refine (ewithin_calls _ _ _ _).mono ?_; rintro r w' ⟨rfl, rfl⟩; simp only [*]) | (go_at_call 208; refine (ecounts_calls e H.out HB.out _).mono ?_; rintro r w' ⟨rfl, hk⟩))
    go_ret
    exact ⟨by simp, Keeps.trans (by repeat (first | exact Keeps.refl _ _ | refine Keeps.alloc ?_ _ | refine Keeps.drew ?_ | refine Keeps.drewN ?_ _ | refine Keeps.trans ?_ (by assumption))) hk⟩
  all_goals
    go_enter Tryz.func172, Tryz.ntmps172
    go_wp2_with (go_at_call 207; refine (ewithin_calls _ _ _ _).mono ?_; rintro r w' ⟨rfl, rfl⟩; simp only [*])
    go_ret
    exact ⟨rfl, (by repeat (first | exact Keeps.refl _ _ | refine Keeps.alloc ?_ _ | refine Keeps.drew ?_ | refine Keeps.drewN ?_ _ | refine Keeps.trans ?_ (by assumption)))⟩
end Go.Rv

/- Entries: their bodies. -/
namespace Go.Rv
open Go Go.RowKit Go.Proofs
attribute [local irreducible] wpQuiet tab0 tabV
attribute [local go_sem ↓] ld_Body st_Body al_Body ld_Entry st_Entry al_Entry
attribute [local go_sem] cellsAt_new0 cellsAt_lt cellsAt_drew size_bytesV

def EnS.body (e : EnS) : List UInt8 := leB 6 e.first ++ leB 1 e.count ++ leB 1 e.block ++ leB 2 e.many ++ leB 2 e.mate ++ e.bytes
theorem EnS.body_len (e : EnS) (h : e.bytes.length = 32) : e.body.length = 44 := by simp [EnS.body, leB_len, h]
theorem EnS.right_bd {e : EnS} (h : e.right = true) : (0 ≤ e.first ∧ e.first ≤ 281474976710655) ∧ (1 ≤ e.count ∧ e.count ≤ 4) ∧ (0 ≤ e.block ∧ e.block ≤ 255) ∧ (0 ≤ e.many ∧ e.many ≤ 256) ∧ (0 ≤ e.mate ∧ e.mate ≤ 65535) ∧ (1 ≤ e.kind ∧ e.kind ≤ 3) := by
  unfold EnS.right EnS.counts at h
  simp only [Bool.and_eq_true] at h
  obtain ⟨⟨⟨h1, h2⟩, h3⟩, h4⟩ := h
  simp [inB] at h1 h2 h3
  split at h4
  · simp [inB] at h4; omega
  · split at h4
    · simp [inB] at h4; omega
    · split at h4
      · simp at h4; omega
      · cases h4
def zero44 : List UInt8 := List.replicate 44 0
theorem z_body0 : z_Body = bytesV zero44 := rfl
theorem pad44_full {l : List UInt8} (h : l.length = 44) : pad44 l = l := by simp [pad44, h]

set_option maxHeartbeats 400000 in
set_option maxRecDepth 100000 in
theorem ebody_bad (e : EnS) (h : e.bytes.length = 32) (hr : e.right = false) (w : World) : Calls Tryz.prog 128 #[.agg (enC e)] w fun r w' => r = .returned (.tuple #[.agg (bytesV zero44), .int .i64 10]) ∧ Keeps (fun _ => False) w w' := by
  have q := (en_facts e h).1
  have H := hid (And.intro h hr)
  have g2 : (((w.alloc (.cells (enC e) 89)).alloc (.cells z_Body 118)).alloc (.cells z_Body 118)).heap[w.heap.size]? = some (.cells (enC e) 89 (0, 0)) := heap_old _ _ (heap_old _ _ (heap_new _ _))
  have g3 := cellsAt_full (n := 38) g2 q
  clear h hr g2
  go_enter Tryz.func128, Tryz.ntmps128
  go_wp2_with fail
  refine Calls.mono (eright_calls e H.out.1 _) ?_
  rintro r w1 ⟨rfl, hk1⟩
  rw [H.out.2]
  have h1 : w1.heap[w.heap.size + 1]? = some (.cells z_Body 118 (0, 0)) := hk1.heap (heap_old _ _ (by have := heap_new (w.alloc (.cells (enC e) 89)) (.cells z_Body 118); simpa using this)) id
  have h2 : w1.heap[w.heap.size + 2]? = some (.cells z_Body 118 (0, 0)) := hk1.heap (by have := heap_new ((w.alloc (.cells (enC e) 89)).alloc (.cells z_Body 118)) (.cells z_Body 118); simpa using this) id
  have hkk : Keeps (fun _ => False) w w1 := Keeps.trans (by repeat (first | exact Keeps.refl _ _ | refine Keeps.alloc ?_ _ | refine Keeps.drew ?_ | refine Keeps.drewN ?_ _ | refine Keeps.trans ?_ (by assumption))) hk1
  rw [z_body0] at h1 h2
  have e1 := cellsAt_full (n := 44) h2 rfl
  have e2 := cellsFree_full (n := 44) h1 rfl
  have e3 := allOne_bytes zero44
  have e4 : (bytesV zero44).size = 44 := rfl
  have HX := hid (And.intro h1 hkk)
  clear hk1 h1 h2 hkk
  go_wp2_with fail
  refine bodyPost_ret (results_cell2 rfl row_Body _ rfl (cellsAt_full (putCells_at HX.out.1 (by rw [e4])) e4)) rfl ⟨rfl, ?_⟩
  exact keeps_put0 HX.out.2 (fun h => absurd h (by omega)) _

set_option maxHeartbeats 600000 in
set_option maxRecDepth 100000 in
theorem ebody_good (e : EnS) (h : e.bytes.length = 32) (hr : e.right = true) (w : World) : Calls Tryz.prog 128 #[.agg (enC e)] w fun r w' => r = .returned (.tuple #[.agg (bytesV e.body), .int .i64 0]) ∧ Keeps (fun _ => False) w w' := by
  have q := (en_facts e h).1
  have H := hid (And.intro h hr)
  have HBD := hid (EnS.right_bd hr)
  have g2 : (((w.alloc (.cells (enC e) 89)).alloc (.cells z_Body 118)).alloc (.cells z_Body 118)).heap[w.heap.size]? = some (.cells (enC e) 89 (0, 0)) := heap_old _ _ (heap_old _ _ (heap_new _ _))
  have g3 := cellsAt_full (n := 38) g2 q
  obtain ⟨S, hS⟩ : ∃ S, e.body = S := ⟨_, rfl⟩
  rw [hS]
  have hSl : S.length = 44 := by rw [← hS]; exact e.body_len h
  have HS := hid (And.intro hS hSl)
  clear h hr g2 hS hSl
  go_enter Tryz.func128, Tryz.ntmps128
  go_wp2_with fail
  refine Calls.mono (eright_calls e H.out.1 _) ?_
  rintro r w1 ⟨rfl, hk1⟩
  rw [H.out.2]
  have h0 : w1.heap[w.heap.size]? = some (.cells (enC e) 89 (0, 0)) := hk1.heap (heap_old _ _ (heap_old _ _ (heap_new _ _))) id
  have h1 : w1.heap[w.heap.size + 1]? = some (.cells z_Body 118 (0, 0)) := hk1.heap (heap_old _ _ (by have := heap_new (w.alloc (.cells (enC e) 89)) (.cells z_Body 118); simpa using this)) id
  have h2 : w1.heap[w.heap.size + 2]? = some (.cells z_Body 118 (0, 0)) := hk1.heap (by have := heap_new ((w.alloc (.cells (enC e) 89)).alloc (.cells z_Body 118)) (.cells z_Body 118); simpa using this) id
  have hkk : Keeps (fun _ => False) w w1 := Keeps.trans (by repeat (first | exact Keeps.refl _ _ | refine Keeps.alloc ?_ _ | refine Keeps.drew ?_ | refine Keeps.drewN ?_ _ | refine Keeps.trans ?_ (by assumption))) hk1
  obtain ⟨w4, hw4⟩ : ∃ w4, w1.alloc (.cells #[.slice none 0 0, .bool false] 278) = w4 := ⟨_, rfl⟩
  have hk4 : Keeps (fun _ => False) w1 w4 := by rw [← hw4]; exact (by repeat (first | exact Keeps.refl _ _ | refine Keeps.alloc ?_ _ | refine Keeps.drew ?_ | refine Keeps.drewN ?_ _ | refine Keeps.trans ?_ (by assumption)))
  have HP0 : Hid (PenBy w4 w1.heap.size [] w4) := hid ⟨by rw [← hw4]; exact PenAt.new w1, PenStep.refl _ _⟩
  have HY := hid (And.intro (hk4.heap h0 id) (And.intro (hk4.heap h1 id) (And.intro (hk4.heap h2 id) (hkk.trans hk4))))
  have HSZ := hid (And.intro (lt_of h2) hk4.size)
  have c1 := (HP0.out.cell HY.out.1 (by decide) (by decide) 1).trans (en_facts e H.out.1).2.2.1
  clear hk1 h0 h1 h2 hkk hk4
  go_wp2_with fail
  clear hw4 c1
  refine Calls.mono (HP0.out.num 6 6 e.first rfl (by have := HBD.out; omega) (by simp) (penOk6 _ (by have := HBD.out; omega) (by have := HBD.out; omega))) ?_
  rintro r w5 ⟨rfl, hp⟩
  have HP1 := hid hp
  have c2 := (hp.cell HY.out.1 (by decide) (by decide) 2).trans (en_facts e H.out.1).2.2.2.1
  clear hp
  go_wp2_with fail
  clear c2
  refine Calls.mono (HP1.out.num 1 1 e.count rfl (by have := HBD.out; omega) (by simp [leB_len]) (penOk1 _ (by have := HBD.out; omega) (by have := HBD.out; omega))) ?_
  rintro r w6 ⟨rfl, hp⟩
  have HP2 := hid hp
  have c3 := (hp.cell HY.out.1 (by decide) (by decide) 3).trans (en_facts e H.out.1).2.2.2.2.1
  clear hp
  go_wp2_with fail
  clear c3
  refine Calls.mono (HP2.out.num 1 1 e.block rfl (by have := HBD.out; omega) (by simp [leB_len]) (penOk1 _ (by have := HBD.out; omega) (by have := HBD.out; omega))) ?_
  rintro r w7 ⟨rfl, hp⟩
  have HP3 := hid hp
  have c4 := (hp.cell HY.out.1 (by decide) (by decide) 4).trans (en_facts e H.out.1).2.2.2.2.2.1
  clear hp
  go_wp2_with fail
  clear c4
  refine Calls.mono (HP3.out.num 2 2 e.many rfl (by have := HBD.out; omega) (by simp [leB_len]) (penOk2 _ (by have := HBD.out; omega) (by have := HBD.out; omega))) ?_
  rintro r w8 ⟨rfl, hp⟩
  have HP4 := hid hp
  have c5 := (hp.cell HY.out.1 (by decide) (by decide) 5).trans (en_facts e H.out.1).2.2.2.2.2.2
  clear hp
  go_wp2_with fail
  clear c5
  refine Calls.mono (HP4.out.num 2 2 e.mate rfl (by have := HBD.out; omega) (by simp [leB_len]) (penOk2 _ (by have := HBD.out; omega) (by have := HBD.out; omega))) ?_
  rintro r w9 ⟨rfl, hp⟩
  have hby : BytesAt w9 w.heap.size 6 e.bytes := fun j hj => (hp.cell HY.out.1 (by decide) (by decide) (6 + j)).trans (en_bytes e j hj)
  have HP5 := hid (And.intro hp hby)
  clear hp hby
  go_wp2_with fail
  refine Calls.mono (pbytes_n w1.heap.size _ false w.heap.size 6 32 32 e.bytes H.out.1 w9 HP5.out.1.pen HP5.out.2 (by omega) (by simp [leB_len])) ?_
  rintro r w10 ⟨rfl, hp, hs⟩
  have hp6 : PenBy w4 w1.heap.size S w10 := by
    rw [← HS.out.1]
    exact ⟨hp, HP5.out.1.step.trans hs⟩
  have HP6 := hid hp6
  clear hp hs hp6
  go_wp2_with fail
  refine Calls.mono (pout_n w1.heap.size 44 S HS.out.2 _ HP6.out.pen (by omega) (by omega)) ?_
  rintro r w11 ⟨g, cap, rfl, hg, hby, hk⟩
  have hb1 := hk.heap (HP6.out.step.heap HY.out.2.1 (by decide) (by decide)) id
  have hb2 := hk.heap (HP6.out.step.heap HY.out.2.2.1 (by decide) (by decide)) id
  have a1 : Keeps (fun k => w1.heap.size ≤ k) w w10 := (HY.out.2.2.2.mono fun _ _ h => h.elim).trans HP6.out.step.keeps
  have a2 : Keeps (fun _ => False) w w10 := a1.mono fun i hi h => by have := HSZ.out; omega
  have HX := hid (And.intro hb1 (And.intro hb2 (And.intro hby (a2.trans hk))))
  clear hb1 hb2 hby hk a1 a2
  obtain ⟨cur, hcur⟩ : ∃ cur, cur = List.replicate 44 (Value.int .u8 0) := ⟨_, rfl⟩
  obtain ⟨cs, hcs⟩ : ∃ cs, cs = S.map byteV := ⟨_, rfl⟩
  have HCU := hid (And.intro hcur hcs)
  clear hcur hcs
  have hinf : (Tryz.prog.info? 5).map (·.size) = some 1 := by kernel_rfl
  go_wp2_with (with_reducible refine wpList_copy_splice rfl (.tmp 34) (.tmp 35) 174 174 rfl 5 Tryz.underlying174 hinf (some ⟨w.heap.size + 2, 0, none⟩) (some ⟨g, 0, none⟩) 44 44 44 cap rfl rfl (w.heap.size + 2) 0 cur 118 ?c0 cs ?c1 ?c2 ?c3 ?c4 (w.heap.size + 2) w11 (Below.refl _ _) (Nat.le_refl _) ?go)
  case c0 => rw [HCU.out.1]; exact HX.out.2.1
  case c1 =>
    rw [HCU.out.2, List.length_map, HS.out.2]
    rfl
  case c2 =>
    rw [HCU.out.2]
    intro _ j v hv
    have := HX.out.2.2.1.news j v hv
    rwa [add_off, Nat.zero_add] at this
  case c3 => rw [HCU.out.1, HCU.out.2]; simp [HS.out.2]
  case c4 => rw [HCU.out.2]; exact fun v hv => by obtain ⟨c, _, rfl⟩ := List.mem_map.1 hv; rfl
  case go =>
    intro w2 hg2 hb2
    have q1 := hg2.out
    rw [HCU.out.1, HCU.out.2, splice_pad S, pad44_full HS.out.2] at q1
    have hk2 := Keeps.of_below' hb2
    have hb0 := hk2.heap HX.out.1 (by omega)
    have e4 : (bytesV S).size = 44 := by simp [bytesV, HS.out.2]
    have e1 := cellsAt_full (n := 44) q1 e4
    have e2 := cellsFree_full (n := 44) hb0 rfl
    have e3 := allOne_bytes S
    have HZ := hid (And.intro hb0 hk2)
    clear q1 hk2 hb0 hg2 hb2
    go_wp2_with fail
    refine bodyPost_ret (results_cell2 rfl row_Body _ rfl (cellsAt_full (putCells_at HZ.out.1 (by rw [e4]; rfl)) e4)) rfl ⟨rfl, ?_⟩
    exact keeps_put0 (HX.out.2.2.2.trans' HZ.out.2 fun i hi h => by omega) (fun h => absurd h (by omega)) _
end Go.Rv

/- Entries: their frames. -/
namespace Go.Rv
open Go Go.RowKit Go.Proofs
attribute [local irreducible] wpQuiet tab0 tabV

theorem bd_Frame0 (f : Operand → Value) (d : Option Tmp) (t : TypeId) (pos : String) (af : Array Edge) (g : Option (Nat × Bool)) (w : World) :
    (execOp f ⟨d, .build 120 #[], t, pos, af, g⟩).run Tryz.prog w = .ok (.value (.agg z_Frame)) w := by
  have h : (Instr.build 120 #[]).run Tryz.prog w = .ok (.agg z_Frame) w := by kernel_rfl
  simp [execOp, h]
def FrmS.zero : FrmS := ⟨0, 0, 0, 0, 0, zero44⟩
theorem frmC_zero : z_Frame = frmC FrmS.zero := by kernel_rfl
def EnS.frame (e : EnS) (zone off epoch seq : Int) : FrmS := ⟨e.kind, zone, off, epoch, seq, e.body⟩
def EnS.frames (e : EnS) (zone off epoch seq : Int) : Bool := e.right && (e.frame zone off epoch seq).right && decide (e.first ≤ seq) && decide (seq - e.count < e.first)
def EnS.frameR (e : EnS) (zone off epoch seq : Int) : FrmS × Int := if e.frames zone off epoch seq then (e.frame zone off epoch seq, 0) else (FrmS.zero, 10)

attribute [local go_sem ↓] ld_Body st_Body al_Body ld_Entry st_Entry al_Entry ld_Frame st_Frame al_Frame bd_Frame6 bd_Frame0
attribute [local go_sem] cellsAt_new0 cellsAt_lt cellsAt_drew size_bytesV cellsFree_new0 size_z_Body size_z_Frame

/-- what a frame's making leaves behind: the box, the result's block, the body's, the frame's. -/
structure FrAt (w : World) (e : EnS) (F : FrmS) (rb fb : Nat) (X : World) : Prop where
  keeps : Keeps (fun _ => False) w X
  box : X.heap[w.heap.size]? = some (.cells (enC e) 89 (0, 0))
  res : X.heap[rb]? = some (.cells z_Frame 120 (0, 0))
  frm : X.heap[fb]? = some (.cells (frmC F) 120 (0, 0))
theorem FrAt.still {w : World} {e : EnS} {F : FrmS} {rb fb : Nat} {X Y : World} (h : FrAt w e F rb fb X) (hk : Keeps (fun _ => False) X Y) : FrAt w e F rb fb Y :=
  ⟨h.keeps.trans hk, hk.heap h.box id, hk.heap h.res id, hk.heap h.frm id⟩

set_option maxHeartbeats 600000 in
set_option maxRecDepth 100000 in
theorem eframe_calls (e : EnS) (h : e.bytes.length = 32) (zone off epoch seq : Int) (w : World) : Calls Tryz.prog 79 #[.agg (enC e), .int .i64 zone, .int .i64 off, .int .i64 epoch, .int .i64 seq] w fun r w' => r = .returned (.tuple #[.agg (frmC (e.frameR zone off epoch seq).1), .int .i64 (e.frameR zone off epoch seq).2]) ∧ Keeps (fun _ => False) w w' := by
  have q := (en_facts e h).1
  have H := hid h
  have g2 : ((w.alloc (.cells (enC e) 89)).alloc (.cells z_Frame 120)).heap[w.heap.size]? = some (.cells (enC e) 89 (0, 0)) := heap_old _ _ (heap_new _ _)
  have g4 : ((w.alloc (.cells (enC e) 89)).alloc (.cells z_Frame 120)).heap[w.heap.size + 1]? = some (.cells z_Frame 120 (0, 0)) := by have := heap_new (w.alloc (.cells (enC e) 89)) (.cells z_Frame 120); simpa using this
  have g3 := cellsAt_full (n := 38) g2 q
  have hk0 : Keeps (fun _ => False) w ((w.alloc (.cells (enC e) 89)).alloc (.cells z_Frame 120)) := (by repeat (first | exact Keeps.refl _ _ | refine Keeps.alloc ?_ _ | refine Keeps.drew ?_ | refine Keeps.drewN ?_ _ | refine Keeps.trans ?_ (by assumption)))
  have HG := hid (And.intro g2 (And.intro g4 hk0))
  clear h g2 g4 hk0
  obtain ⟨R, hR0⟩ : ∃ R, e.frameR zone off epoch seq = R := ⟨_, rfl⟩
  rw [hR0]
  have HR0 := hid hR0
  clear hR0
  have HRF : Hid (e.frames zone off epoch seq = false → R = (FrmS.zero, 10)) := hid fun h => by rw [← HR0.out]; unfold EnS.frameR; rw [h]; rfl
  have HRT : Hid (e.frames zone off epoch seq = true → R = (e.frame zone off epoch seq, 0)) := hid fun h => by rw [← HR0.out]; unfold EnS.frameR; rw [h]; rfl
  obtain ⟨gg, hgg⟩ : ∃ gg : Int, (if e.right then (0 : Int) else 10) = gg := ⟨_, rfl⟩
  obtain ⟨bb, hbb⟩ : ∃ bb, (if e.right then e.body else zero44) = bb := ⟨_, rfl⟩
  have hbl : bb.length = 44 := by rw [← hbb]; split; exact e.body_len H.out; rfl
  have HB : Hid (∀ X, Calls Tryz.prog 128 #[.agg (enC e)] X fun r w' => r = .returned (.tuple #[.agg (bytesV bb), .int .i64 gg]) ∧ Keeps (fun _ => False) X w') := hid fun X => by
    rw [← hbb, ← hgg]
    cases hr : e.right with
    | true => simpa using ebody_good e H.out hr X
    | false => simpa using ebody_bad e H.out hr X
  obtain ⟨F, hF⟩ : ∃ F : FrmS, F = ⟨e.kind, zone, off, epoch, seq, bb⟩ := ⟨_, rfl⟩
  have hmk : mkFrm e.kind zone off epoch seq (bytesV bb) = frmC F := by rw [hF]; exact mkFrm_eq ⟨e.kind, zone, off, epoch, seq, bb⟩
  have hFb : F.body.length = 44 := by rw [hF]; exact hbl
  have HF := hid (And.intro hF (And.intro hgg (And.intro hbb hFb)))
  have e4 : (bytesV bb).size = 44 := by simp [bytesV, hbl]
  have e3 := allOne_bytes bb
  have f4 := (frm_facts F hFb).1
  have f3 := frm_one F
  clear hgg hbb hbl hF hFb
  go_enter Tryz.func79, Tryz.ntmps79
  go_wp2_with fail
  refine Calls.mono (HB.out _) ?_
  rintro r w1 ⟨rfl, hk1⟩
  obtain ⟨w2, hw2⟩ : ∃ w2, putCells (w1.alloc (.cells z_Body 118)) ⟨w1.heap.size, 0, none⟩ (bytesV bb) = w2 := ⟨_, rfl⟩
  have hk2 : Keeps (fun _ => False) w1 w2 := by rw [← hw2]; exact keeps_put0 (by repeat (first | exact Keeps.refl _ _ | refine Keeps.alloc ?_ _ | refine Keeps.drew ?_ | refine Keeps.drewN ?_ _ | refine Keeps.trans ?_ (by assumption))) (fun h => absurd h (Nat.lt_irrefl _)) _
  have hb2 : w2.heap[w1.heap.size]? = some (.cells (bytesV bb) 118 (0, 0)) := by rw [← hw2]; exact putCells_at (heap_new _ _) (by rw [size_z_Body, e4])
  have hkk := hk1.trans hk2
  have hx2 := hkk.heap HG.out.1 id
  have c0 := (cell_of hx2 0).trans (en_facts e H.out).2.1
  have cb := cellsAt_full hb2 e4
  obtain ⟨w3, hw3⟩ : ∃ w3, putCells (w2.alloc (.cells z_Frame 120)) ⟨w2.heap.size, 0, none⟩ (frmC F) = w3 := ⟨_, rfl⟩
  have hk3 : Keeps (fun _ => False) w2 w3 := by rw [← hw3]; exact keeps_put0 (by repeat (first | exact Keeps.refl _ _ | refine Keeps.alloc ?_ _ | refine Keeps.drew ?_ | refine Keeps.drewN ?_ _ | refine Keeps.trans ?_ (by assumption))) (fun h => absurd h (Nat.lt_irrefl _)) _
  have hf3 : w3.heap[w2.heap.size]? = some (.cells (frmC F) 120 (0, 0)) := by rw [← hw3]; exact putCells_at (heap_new _ _) (by rw [size_z_Frame, f4])
  have hkw := hkk.trans hk3
  have HX : Hid (FrAt w e F (w.heap.size + 1) w2.heap.size w3) := hid ⟨HG.out.2.2.trans hkw, hkw.heap HG.out.1 id, hkw.heap HG.out.2.1 id, hf3⟩
  have cf := cellsAt_full hf3 f4
  clear hk1 hk2 hb2 hkk hx2 hk3 hf3 hkw
  have zr0 : (allOne z_Frame) = true := by rw [frmC_zero]; exact frm_one _
  have ZF := hid frmC_zero
  cases hr : e.right with
  | false =>
    have hg : gg = 10 := by have := HF.out.2.1; rw [hr] at this; exact this.symm
    have hfr : e.frames zone off epoch seq = false := by unfold EnS.frames; rw [hr]; rfl
    have HRV := hid (HRF.out hfr)
    subst hg
    have fr := cellsFree_full (n := 49) HX.out.res size_z_Frame
    clear hr hfr
    go_wp2_with fail
    refine bodyPost_ret (results_cell2 rfl row_Frame _ rfl (cellsAt_full (putCells_at HX.out.res rfl) size_z_Frame)) rfl ⟨by rw [HRV.out, ← ZF.out]; rfl, ?_⟩
    exact keeps_put0 HX.out.keeps (fun h => absurd h (by omega)) _
  | true =>
    have hg : gg = 0 := by have := HF.out.2.1; rw [hr] at this; exact this.symm
    have hFF : F = e.frame zone off epoch seq := by rw [HF.out.1, ← HF.out.2.2.1, hr]; rfl
    have hbd := EnS.right_bd hr
    have hfr : e.frames zone off epoch seq = (F.right && decide (e.first ≤ seq) && decide (seq - e.count < e.first)) := by unfold EnS.frames; rw [hr, ← hFF, Bool.true_and]
    have HFR := hid hfr
    subst hg
    have HFF := hid (And.intro hFF hbd)
    have hsq : F.seq = seq := by rw [HF.out.1]
    have HSQ := hid hsq
    clear hr hfr hFF hbd hsq
    go_wp2_with fail
    refine Calls.mono (frame_right_calls F HF.out.2.2.2 _) ?_
    rintro r w4 ⟨rfl, hk4⟩
    have HX4 := hid (HX.out.still hk4)
    have c1 := (cell_of HX4.out.box 1).trans (en_facts e H.out).2.2.1
    have c2 := (cell_of HX4.out.box 2).trans (en_facts e H.out).2.2.2.1
    have fr := cellsFree_full (n := 49) HX4.out.res size_z_Frame
    have cf := cellsAt_full HX4.out.frm f4
    clear hk4 c0 cb hw2 hw3
    cases hR : F.right with
    | false =>
      have HRV := hid (HRF.out (by rw [HFR.out, hR]; rfl))
      go_wp2_with fail
      refine bodyPost_ret (results_cell2 rfl row_Frame _ rfl (cellsAt_full (putCells_at HX4.out.res rfl) size_z_Frame)) rfl ⟨by rw [HRV.out, ← ZF.out]; rfl, ?_⟩
      exact keeps_put0 HX4.out.keeps (fun h => absurd h (by omega)) _
    | true =>
      have hs1 : 0 ≤ seq ∧ seq ≤ 281474976710655 := by
        have := hR; unfold FrmS.right at this; simp [inB] at this; have := HSQ.out; omega
      have hw : IntKind.i64.wrap (seq - e.count) = seq - e.count := IntWalk.i64_in _ (by have := HFF.out.2; omega)
      clear hs1
      by_cases k1 : e.first ≤ seq
      · have d1 : decide (seq < e.first) = false := by simp; omega
        have D1 : decide (e.first ≤ seq) = true := by simpa using k1
        by_cases k2 : seq - e.count < e.first
        · have d2 : decide (e.first ≤ seq - e.count) = false := by simp; omega
          have D2 : decide (seq - e.count < e.first) = true := by simpa using k2
          have HRV := hid (HRT.out (by rw [HFR.out, hR, D1, D2]; rfl))
          clear k1 D1 k2 D2
          go_wp2_with fail
          refine bodyPost_ret (results_cell2 rfl row_Frame _ rfl (cellsAt_full (putCells_at HX4.out.res (by rw [size_z_Frame, f4])) f4)) rfl ⟨by rw [HRV.out, HFF.out.1]; rfl, ?_⟩
          exact keeps_put0 HX4.out.keeps (fun h => absurd h (by omega)) _
        · have d2 : decide (e.first ≤ seq - e.count) = true := by simp; omega
          have D2 : decide (seq - e.count < e.first) = false := by simpa using k2
          have HRV := hid (HRF.out (by rw [HFR.out, hR, D1, D2]; rfl))
          clear k1 D1 k2 D2
          go_wp2_with fail
          refine bodyPost_ret (results_cell2 rfl row_Frame _ rfl (cellsAt_full (putCells_at HX4.out.res rfl) size_z_Frame)) rfl ⟨by rw [HRV.out, ← ZF.out]; rfl, ?_⟩
          exact keeps_put0 HX4.out.keeps (fun h => absurd h (by omega)) _
      · have d1 : decide (seq < e.first) = true := by simp; omega
        have D1 : decide (e.first ≤ seq) = false := by simpa using k1
        have HRV := hid (HRF.out (by rw [HFR.out, hR, D1]; rfl))
        clear k1 D1
        go_wp2_with fail
        refine bodyPost_ret (results_cell2 rfl row_Frame _ rfl (cellsAt_full (putCells_at HX4.out.res rfl) size_z_Frame)) rfl ⟨by rw [HRV.out, ← ZF.out]; rfl, ?_⟩
        exact keeps_put0 HX4.out.keeps (fun h => absurd h (by omega)) _
end Go.Rv

/- Mirrors: the open segment's numbers are set; an open segment with room. -/
namespace Go.Rv
open Go Go.RowKit Go.Proofs
attribute [local irreducible] wpQuiet tab0 tabV
attribute [local go_sem ↓] ld_Geom st_Geom al_Geom ld_Table st_Table al_Table
attribute [local go_sem] cellsAt_new0 cellsAt_lt cellsAt_drew size_bytesV

theorem mirC_low (pb : Nat) (g : GeomS) (tab : Array Value) (plb : Nat) (bv : Value) (a b u a' b' u' : Int) (h : tab.size = 256) (i : Nat) (hi : i < 265) : (mirC pb g tab plb bv a b u)[i]? = (mirC pb g tab plb bv a' b' u')[i]? := by
  by_cases h1 : i < 263
  · by_cases h2 : i < 7
    · rw [mirC_head _ _ _ _ _ _ _ _ _ h2, mirC_head _ _ _ _ _ _ _ _ _ h2]
    · obtain ⟨j, rfl⟩ : ∃ j, i = 7 + j := ⟨i - 7, by omega⟩
      rw [mirC_mid _ _ _ _ _ _ _ _ h _ (by omega), mirC_mid _ _ _ _ _ _ _ _ h _ (by omega)]
  · rw [mirC_tail _ _ _ _ _ _ _ _ h _ (by omega), mirC_tail _ _ _ _ _ _ _ _ h _ (by omega)]
    have : i - 263 = 0 ∨ i - 263 = 1 := by omega
    rcases this with e | e <;> rw [e] <;> rfl
theorem mirC_used (pb : Nat) (g : GeomS) (tab : Array Value) (plb : Nat) (bv : Value) (a b u u' : Int) (h : tab.size = 256) : (mirC pb g tab plb bv a b u).setIfInBounds 267 (.int .i64 u') = mirC pb g tab plb bv a b u' := by
  have hz := mirC_size pb g tab plb bv a b u h
  have hz' := mirC_size pb g tab plb bv a b u' h
  apply Array.ext_getElem?
  intro i
  rw [Array.getElem?_setIfInBounds]
  by_cases e : 267 = i
  · subst e
    rw [if_pos rfl, if_pos (by omega), mirC_tail _ _ _ _ _ _ _ _ h _ (by omega)]; rfl
  · rw [if_neg e]
    by_cases h1 : i < 265
    · exact mirC_low _ _ _ _ _ _ _ _ _ _ _ h _ h1
    · rw [mirC_tail _ _ _ _ _ _ _ _ h _ (by omega), mirC_tail _ _ _ _ _ _ _ _ h _ (by omega)]
      by_cases h2 : i < 267
      · have : i - 263 = 2 ∨ i - 263 = 3 := by omega
        rcases this with e | e <;> rw [e] <;> rfl
      · rw [Array.getElem?_eq_none (by simp; omega), Array.getElem?_eq_none (by simp; omega)]
theorem mirC_all (pb : Nat) (g : GeomS) (tab : Array Value) (plb : Nat) (bv : Value) (a b u a' b' u' : Int) (h : tab.size = 256) : (((mirC pb g tab plb bv a b u).setIfInBounds 265 (.int .i64 a')).setIfInBounds 266 (.int .i64 b')).setIfInBounds 267 (.int .i64 u') = mirC pb g tab plb bv a' b' u' := by
  have hz := mirC_size pb g tab plb bv a b u h
  have hz' := mirC_size pb g tab plb bv a' b' u' h
  apply Array.ext_getElem?
  intro i
  rw [Array.getElem?_setIfInBounds, Array.getElem?_setIfInBounds, Array.getElem?_setIfInBounds]
  simp only [Array.size_setIfInBounds]
  by_cases e : 267 = i
  · subst e; rw [if_pos rfl, if_pos (by omega), mirC_tail _ _ _ _ _ _ _ _ h _ (by omega)]; rfl
  · rw [if_neg e]
    by_cases e2 : 266 = i
    · subst e2; rw [if_pos rfl, if_pos (by omega), mirC_tail _ _ _ _ _ _ _ _ h _ (by omega)]; rfl
    · rw [if_neg e2]
      by_cases e3 : 265 = i
      · subst e3; rw [if_pos rfl, if_pos (by omega), mirC_tail _ _ _ _ _ _ _ _ h _ (by omega)]; rfl
      · rw [if_neg e3]
        by_cases h1 : i < 265
        · exact mirC_low _ _ _ _ _ _ _ _ _ _ _ h _ h1
        · rw [Array.getElem?_eq_none (by omega), Array.getElem?_eq_none (by omega)]

/-- the open segment is set. -/
theorem MirAt.open {w w' : World} {own : Nat → Nat} {mb pb db plb : Nat} {M : MirS} {bb bc : Nat} {cur : Array Value} (h1 : MirHead w own mb pb plb M bb bc cur) (h : MirAt w own mb pb db plb M) (hset : Settled own w) (a b u : Int) (hk : Keeps (fun k => k = mb) w w')
    (hh : w'.heap[mb]? = some (.cells (mirC pb M.g (tabV tab0) plb (.slice (some ⟨bb, 0, none⟩) M.g.all.toNat bc) a b u) 149 (0, 0))) :
    MirAt w' own mb pb db plb { M with a := a, b := b, used := u } ∧ Step (fun t => t = 4) w own w' own ∧ Settled own w' := by
  have hk4 : Keeps (fun k => own k = 4) w w' := hk.mono fun k _ e => by rw [e]; exact h1.mine
  obtain ⟨s1, s2⟩ := Step.kept (A := fun t => t = 4) hk4 hset
  obtain ⟨-, h2, h3, h4⟩ := h
  have hne : bb ≠ mb := by
    intro e
    have a1 := h1.heap
    have a2 := h1.list
    rw [← e, a2] at a1
    simp only [Option.some.injEq, Obj.cells.injEq] at a1
    have := a1.2.1
    revert this
    decide
  exact ⟨⟨⟨bb, bc, cur, ⟨h1.mine, h1.mineb, hh, hk.heap h1.list hne, h1.elems⟩⟩, h2.kept s1 fun t ht e => by subst e; exact tags_apart.1 ht, h3.kept h4.pool.nd.2.1 s1 fun t ht e => by subst e; exact tags_apart.2.1 ht, ⟨h4.right, h4.pool, h4.pg, h4.nz, h4.size⟩⟩, s1, s2⟩

/-- a pair of zones out of the pool. -/
def PoolS.pair (p : PoolS) : PoolS × Int × Int × Int :=
  if p.pairs = 0 then (p, 0, 0, 15) else
  match p.L (p.best (-1) p.nd).toNat, p.L (p.best (p.best (-1) p.nd) p.nd).toNat with
  | x :: l, y :: m => ((p.set (p.best (-1) p.nd).toNat l).set (p.best (p.best (-1) p.nd) p.nd).toNat m, x, y, 0)
  | _, _ => (p, 0, 0, 15)
theorem ppair_calls (own : Nat → Nat) (plb : Nat) (p : PoolS) (w : World) (h : PoolAt w own plb p) (hok : p.Ok) : Calls Tryz.prog 130 #[.pointer (some ⟨plb, 0, none⟩)] w fun e w' => e = .returned (.tuple #[.int .i64 p.pair.2.1, .int .i64 p.pair.2.2.1, .int .i64 p.pair.2.2.2]) ∧ PoolAt w' own plb p.pair.1 ∧ Keeps (fun k => poolTag (own k)) w w' ∧ p.pair.1.Ok ∧ p.pair.1.g = p.g := by
  unfold PoolS.pair
  by_cases k : p.pairs = 0
  · rw [if_pos k]
    exact (pair_none own plb p w h hok k).mono fun e w' ⟨h1, h2⟩ => ⟨h1, h.keeps hok.nd.2.1 h2 (fun _ _ => id), h2.mono fun _ _ h => h.elim, hok, rfl⟩
  · rw [if_neg k]
    obtain ⟨a, b, x, y, l, m, ha, hb, han, hbn, hab, hla, hlb⟩ := PoolS.pair_ex hok k
    have ha' : (p.best (-1) p.nd).toNat = a := by omega
    have hb' : (p.best (p.best (-1) p.nd) p.nd).toNat = b := by rw [ha]; omega
    rw [ha', hb', hla, hlb]
    refine (pair_some own plb p w h hok k a b x y l m ha hb han hbn hab hla hlb).mono fun e w' ⟨h1, h2, h3⟩ => ⟨h1, h2, h3, ?_, rfl⟩
    exact (hok.tail hla).tail (by simp only [PoolS.set]; rw [if_neg (Ne.symm hab)]; exact hlb)

def MirS.ready (M : MirS) : MirS × Int :=
  if M.a ≠ -1 ∧ M.used < M.g.size then (M, 0)
  else if M.d.flush.2 ≠ 0 then ({ M with d := M.d.flush.1 }, M.d.flush.2)
  else if M.p.pair.2.2.2 ≠ 0 then ({ M with d := M.d.flush.1, p := M.p.pair.1 }, 40)
  else ({ M with d := M.d.flush.1, p := M.p.pair.1, a := M.p.pair.2.1, b := M.p.pair.2.2.1, used := 0 }, 0)
end Go.Rv

/- Mirrors: there is an open segment with room, or none can be had. -/
namespace Go.Rv
open Go Go.RowKit Go.Proofs
attribute [local irreducible] wpQuiet tab0 tabV
attribute [local go_sem] cellsAt_new0 cellsAt_lt cellsAt_drew size_bytesV

theorem MirHead.size {w : World} {own : Nat → Nat} {mb pb plb : Nat} {M : MirS} {bb bc : Nat} {cur : Array Value} (h : MirHead w own mb pb plb M bb bc cur) : w.cell? ⟨mb, 3, none⟩ = some (.int .i64 M.g.size) := by
  have c := (cellsAt_cell h.cells.2.1).2 2 (.int .i64 M.g.size) rfl
  rwa [add_off] at c
/-- from one step to the next. -/
theorem MirAt.go {w : World} {own : Nat → Nat} {mb pb db plb : Nat} {M : MirS} (h : MirAt w own mb pb db plb M) : w.cell? ⟨mb, 0, none⟩ = some (.pointer (some ⟨pb, 0, none⟩)) ∧ w.cell? ⟨mb, 3, none⟩ = some (.int .i64 M.g.size) ∧ w.cell? ⟨mb, 263, none⟩ = some (.pointer (some ⟨plb, 0, none⟩)) ∧ w.cell? ⟨mb, 265, none⟩ = some (.int .i64 M.a) ∧ w.cell? ⟨mb, 266, none⟩ = some (.int .i64 M.b) ∧ w.cell? ⟨mb, 267, none⟩ = some (.int .i64 M.used) ∧ w.frozen? ⟨mb, 265, none⟩ = false ∧ w.frozen? ⟨mb, 266, none⟩ = false ∧ w.frozen? ⟨mb, 267, none⟩ = false := by
  obtain ⟨⟨bb, bc, cur, h1⟩, -, -, -⟩ := h
  obtain ⟨c0, -, -, c3, -, c5, c6, c7⟩ := h1.cells
  exact ⟨c0, h1.size, c3, c5, c6, c7, h1.free _, h1.free _, h1.free _⟩
def mgTag (t : Nat) : Prop := t = 4 ∨ drvTag t ∨ poolTag t

set_option maxHeartbeats 600000 in
set_option maxRecDepth 100000 in
theorem mready_calls (own : Nat → Nat) (mb pb db plb : Nat) (M : MirS) (w : World) (h : MirAt w own mb pb db plb M) (hset : Settled own w) : Calls Tryz.prog 80 #[.pointer (some ⟨mb, 0, none⟩)] w fun e w' =>
    e = .returned (.int .i64 M.ready.2) ∧ ∃ own', MirAt w' own' mb pb db plb M.ready.1 ∧ Step mgTag w own w' own' ∧ Settled own' w' := by
  have H := hid (And.intro h hset)
  have HF : Hid (∀ W, Keeps (fun _ => False) w W → W.cell? ⟨mb, 265, none⟩ = some (.int .i64 M.a) ∧ W.cell? ⟨mb, 267, none⟩ = some (.int .i64 M.used) ∧ W.cell? ⟨mb, 3, none⟩ = some (.int .i64 M.g.size)) := hid fun W hW => by
    obtain ⟨-, c3, -, c5, -, c7, -⟩ := (H.out.1.still hW).go
    exact ⟨c5, c7, c3⟩
  clear h hset
  unfold MirS.ready
  by_cases k : M.a ≠ -1 ∧ M.used < M.g.size
  · rw [if_pos k]
    have b1 : (M.a != -1) = true := by simpa using k.1
    have b2 : decide (M.used < M.g.size) = true := by simpa using k.2
    clear k
    go_enter Tryz.func80, Tryz.ntmps80
    go_wp2_with fail
    refine wp_region_still (by kernel_rfl) (by kernel_rfl) ?_
    repeat (first | (refine still_pass ?_ ?_; (focus (first | (go_simp; done) | rfl)); try simp only [Act.put, List.setIfInBounds_toArray, List.set_cons_succ, List.set_cons_zero]) | (apply still_step; (focus (go_simp; done)); (focus (intro W hW; unfold Oper.quietAt; (obtain ⟨c5, c7, c3⟩ := HF.out W hW); go_simp; first | done | with_reducible rfl | fail | exact ⟨rfl, rfl⟩)); try simp only [Act.put, List.setIfInBounds_toArray, List.set_cons_succ, List.set_cons_zero]))
    refine wpQuiet_nil ?_
    intro W hW
    have HW := hid hW
    clear hW
    go_wp2_with fail
    go_ret
    exact ⟨rfl, own, H.out.1.still HW.out, (Step.kept (A := mgTag) (HW.out.mono fun _ _ h => h.elim) H.out.2).1, H.out.2.keeps HW.out⟩
  · rw [if_neg k]
    have HK := hid k
    obtain ⟨RR, hRR⟩ : ∃ RR, (if M.d.flush.2 ≠ 0 then ({ M with d := M.d.flush.1 }, M.d.flush.2) else if M.p.pair.2.2.2 ≠ 0 then ({ M with d := M.d.flush.1, p := M.p.pair.1 }, 40) else ({ M with d := M.d.flush.1, p := M.p.pair.1, a := M.p.pair.2.1, b := M.p.pair.2.2.1, used := 0 }, 0) : MirS × Int) = RR := ⟨_, rfl⟩
    rw [hRR]
    have HRR := hid hRR
    clear hRR
    have hb : (M.a != -1) = false ∨ ((M.a != -1) = true ∧ decide (M.used < M.g.size) = false) := by
      by_cases k1 : M.a ≠ -1
      · exact .inr ⟨by simpa using k1, by simp; exact Decidable.byContradiction fun c => k ⟨k1, by omega⟩⟩
      · exact .inl (by simpa using k1)
    clear k
    rcases hb with b1 | ⟨b1, b2⟩
    all_goals
      go_enter Tryz.func80, Tryz.ntmps80
      go_wp2_with fail
      refine wp_region_still (by kernel_rfl) (by kernel_rfl) ?_
      repeat (first | (refine still_pass ?_ ?_; (focus (first | (go_simp; done) | rfl)); try simp only [Act.put, List.setIfInBounds_toArray, List.set_cons_succ, List.set_cons_zero]) | (apply still_step; (focus (go_simp; done)); (focus (intro W hW; unfold Oper.quietAt; (obtain ⟨c5, c7, c3⟩ := HF.out W hW); go_simp; first | done | with_reducible rfl | fail | exact ⟨rfl, rfl⟩)); try simp only [Act.put, List.setIfInBounds_toArray, List.set_cons_succ, List.set_cons_zero]))
      refine wpQuiet_nil ?_
      intro W hW
      have hM := H.out.1.still hW
      have c0 := hM.go.1
      have HW := hid (And.intro hM (And.intro (H.out.2.keeps hW) hW))
      clear hM hW
      go_wp2_with fail
      refine Calls.mono (pflush_calls own pb db M.d W HW.out.1.drive HW.out.2.1) ?_
      rintro e w5 ⟨rfl, own5, hd5, hs5, hset5⟩
      have hM5 := HW.out.1.turn hs5 hd5 M.d.like_flush
      have hst5 := (Step.kept (A := mgTag) (HW.out.2.2.mono fun _ _ h => h.elim) H.out.2).1.trans (hs5.mono (B := mgTag) fun t h => .inr (.inl h))
      have c3 := hM5.go.2.2.1
      have H5 := hid (And.intro hM5 (And.intro hst5 hset5))
      clear c0 hd5 hs5 hM5 hst5 hset5
      by_cases kf : M.d.flush.2 = 0
      · have hR1 := HRR.out
        rw [if_neg (by simp [kf])] at hR1
        have HR1 := hid hR1
        rw [kf]
        clear hR1 kf
        go_wp2_with fail
        refine Calls.mono (ppair_calls own5 plb M.p w5 H5.out.1.pool H5.out.1.ok.pool) ?_
        rintro e w6 ⟨rfl, hp6, hk6, hok6, hg6⟩
        obtain ⟨s6, s7⟩ := Step.kept (A := poolTag) hk6 H5.out.2.2
        have hM6 := H5.out.1.turnp s6 hp6 hok6 (hg6.trans H5.out.1.ok.pg)
        have hst6 := H5.out.2.1.trans (s6.mono (B := mgTag) fun t h => .inr (.inr h))
        have H6 := hid (And.intro hM6 (And.intro hst6 s7))
        clear c3 hp6 hk6 hok6 hg6 s6 s7 hM6 hst6
        by_cases kp : M.p.pair.2.2.2 = 0
        · have hR2 := HR1.out
          rw [if_neg (by simp [kp])] at hR2
          rw [kp]
          obtain ⟨bb, bc, cur, h1⟩ := H6.out.1.head
          obtain ⟨-, -, -, c5, c6, c7, f5, f6, f7⟩ := H6.out.1.go
          have ho := fun w' hk hh => MirAt.open (w' := w') h1 H6.out.1 H6.out.2.2 M.p.pair.2.1 M.p.pair.2.2.1 0 hk hh
          have hx := heap_set (heap_set (heap_set h1.heap 265 (.int .i64 M.p.pair.2.1)) 266 (.int .i64 M.p.pair.2.2.1)) 267 (.int .i64 0)
          rw [mirC_all _ _ _ _ _ _ _ _ _ _ _ (size_tabV tab0)] at hx
          have ho2 := ho _ (keeps_set (keeps_set (keeps_set (Keeps.refl _ _) _ _) _ _) _ _) hx
          have H7 := hid (And.intro ho2 hR2)
          clear kp h1 ho hx ho2 hR2
          go_wp2_with fail
          go_ret
          rw [← H7.out.2]
          exact ⟨rfl, own5, H7.out.1.1, H6.out.2.1.trans (H7.out.1.2.1.mono fun t h => .inl h), H7.out.1.2.2⟩
        · have hR2 := HR1.out
          rw [if_pos kp] at hR2
          have kp' : (M.p.pair.2.2.2 != 0) = true := by simpa using kp
          have HR2 := hid hR2
          clear kp hR2
          go_wp2_with fail
          go_ret
          rw [← HR2.out]
          exact ⟨rfl, own5, H6.out⟩
      · have hR1 := HRR.out
        rw [if_pos kf] at hR1
        have kf' : (M.d.flush.2 != 0) = true := by simpa using kf
        have HR1 := hid hR1
        clear hR1 kf
        go_wp2_with fail
        go_ret
        rw [← HR1.out]
        exact ⟨rfl, own5, H5.out⟩
end Go.Rv
