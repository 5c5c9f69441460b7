/- No new device. -/
import Derived.Test.YtoijkpgcaokhlaaGreatPart04
import Derived.Test.YtoijkpgcaokhlaaGreatProg
import Derived.Test.YtoijkpgcaokhlaaGreatPart01
import Derived.KernelRfl
import Derived.WalkKit
import Derived.Conc.LoneSelect
import Derived.Outline
import Derived.Maps.OwnSet
import Derived.Conc.LoneSelectN
import Derived.Deep.Cut
import Derived.Deep.DeepCutAuto
import Derived.RangeFuncNested
import Derived.RangeFuncLeaves
import Derived.OwnWalkIn
import Derived.TacticsInMore
import Derived.LoopNIn
import Derived.LoopIn
set_option linter.unusedVariables false
set_option linter.unusedSimpArgs false
namespace Go.Rv
open Go Go.RowKit Go.Proofs

set_option maxHeartbeats 1000000 in
theorem dnew_bad (nz size opn : Int) (h : ¬ (1 ≤ nz ∧ nz ≤ 512) ∨ ¬ (1 ≤ opn ∧ opn ≤ 64) ∨ ¬ (1 ≤ size ∧ size ≤ 64)) (w : World) : Calls Tryz.prog 72 #[.int .i64 nz, .int .i64 size, .int .i64 opn] w fun e w' =>
    e = .returned (.tuple #[.pointer none, .int .i64 13]) ∧ Keeps (fun _ => False) w w' := by
  by_cases k1 : 1 ≤ nz ∧ nz ≤ 512
  · have E1 := hid (show (decide ((1 : Int) ≤ nz) && decide ((nz : Int) ≤ 512)) = true by simp; omega)
    by_cases k2 : 1 ≤ opn ∧ opn ≤ 64
    · have E2 := hid (show (decide (1 ≤ opn) && decide (opn ≤ 64)) = true by simp; omega)
      have k3 : size < 1 ∨ 64 < size := by omega
      have dd : decide (0 < nz) = true := by simp; omega
      clear h k1 k2
      go_enter Tryz.func72, Tryz.ntmps72
      go_wp2_with fail
      refine Calls.mono (zwithin_calls _ _ _) ?_
      rintro e w1 ⟨rfl, rfl⟩
      rw [E1.out]
      go_wp2_with fail
      refine Calls.mono (zwithin_calls _ _ _) ?_
      rintro e w1 ⟨rfl, rfl⟩
      rw [E2.out]
      go_wp2_with fail
      go_loopg [24] 1 (fun (gk : Nat) (i : Value) (wr : World) => i = .int .i64 0 ∧ Keeps (fun _ => False) w wr)
      case atStart => exact ⟨rfl, (by repeat (first | exact Keeps.refl _ _ | refine Keeps.alloc ?_ _ | refine Keeps.drew ?_ | refine Keeps.drewN ?_ _ | refine Keeps.trans ?_ (by assumption)))⟩
      case round =>
        obtain ⟨rfl, hk⟩ := hrel
        go_wp2_with fail
        refine Calls.mono (znew_bad size k3 _) ?_
        rintro e w2 ⟨rfl, rfl⟩
        go_wp2_with fail
        go_ret2
        exact ⟨rfl, hk⟩
    · have E2 := hid (show (decide (1 ≤ opn) && decide (opn ≤ 64)) = false by simp; omega)
      clear h k1 k2
      go_enter Tryz.func72, Tryz.ntmps72
      go_wp2_with fail
      refine Calls.mono (zwithin_calls _ _ _) ?_
      rintro e w1 ⟨rfl, rfl⟩
      rw [E1.out]
      go_wp2_with fail
      refine Calls.mono (zwithin_calls _ _ _) ?_
      rintro e w1 ⟨rfl, rfl⟩
      rw [E2.out]
      go_wp2_with fail
      go_ret2
      exact ⟨rfl, (by repeat (first | exact Keeps.refl _ _ | refine Keeps.alloc ?_ _ | refine Keeps.drew ?_ | refine Keeps.drewN ?_ _ | refine Keeps.trans ?_ (by assumption)))⟩
  · have E1 := hid (show (decide ((1 : Int) ≤ nz) && decide ((nz : Int) ≤ 512)) = false by simp; omega)
    clear h k1
    go_enter Tryz.func72, Tryz.ntmps72
    go_wp2_with fail
    refine Calls.mono (zwithin_calls _ _ _) ?_
    rintro e w1 ⟨rfl, rfl⟩
    rw [E1.out]
    go_wp2_with fail
    go_ret2
    exact ⟨rfl, (by repeat (first | exact Keeps.refl _ _ | refine Keeps.alloc ?_ _ | refine Keeps.drew ?_ | refine Keeps.drewN ?_ _ | refine Keeps.trans ?_ (by assumption)))⟩
end Go.Rv

/- A select of one case with a default, within the walk of a region. -/
namespace Go.Rv
open Go Go.RowKit Go.Proofs Go.Conc

theorem wp_region_comm {P : Program} {ops : Array Oper} {Q : Exit → Act → World → Prop} {a : Act} {w w' : World} {id n : Nat} {o : Oper} {v : Value} (h0 : ops[0]? = some o) (hsz : ops.size = n + 1)
    (hstep : ∀ (b : Frame) (k : List Item) (cs : List Frame), step P (lone (b.at a (.inRegion ops (0 :: List.range' 1 n) :: k)) cs w) = .next (lone ((b.at a (.inRegion ops (0 :: List.range' 1 n) :: k)).finish v) cs w'))
    (hrest : wpOps P ops Q (List.range' 1 n) (a.put o.dst v) w') : (Code.region id ops false).wp P Q a w := by
  intro b k cs
  obtain ⟨e, a', w'', hq, harr⟩ := wp_ops _ _ _ hrest b k cs
  refine ⟨e, a', w'', hq, ?_⟩
  have h1 := step_region (P := P) (b := b) (a := a) (k := k) (cs := cs) (w := w) (ops := ops) (id := id)
  have hr : List.range ops.size = 0 :: List.range' 1 n := by rw [hsz, List.range_eq_range']; rfl
  rw [hr] at h1
  have h2 := hstep b k cs
  rw [Frame.finish_at, h0] at h2
  exact Arrives.of_steps ((Steps.one h1).trans (.one h2)) harr

theorem stepG_comm {P : Program} {ops : Array Oper} {a : Act} {w : World} {o : Oper} {rest : List Nat} (ho : ops[0]? = some o) (hg : o.guard = none) {cases : Array CommCase} {bl : Bool} {shape : CommShape}
    (hx : (execOp a.eval o).run P w = .ok (.comm cases bl shape) w) (b : Frame) (k : List Item) (cs : List Frame) :
    ∃ es, stepG P true (G (b.at a (.inRegion ops (0 :: rest) :: k)) cs) w = .comm (G (b.at a (.inRegion ops (0 :: rest) :: k)) cs) cases bl shape w es := by
  have hw : Region.wanted o (yielded ops a.tmps) = true := by simp [Region.wanted, hg]
  have := stepG_op (P := P) (b := b) (k := k) (cs := cs) (w := w) (rest := rest) ho hw
  unfold G
  rw [this]
  simp [stepG.apply, hx]
  exact ⟨_, rfl⟩

section
variable {P : Program} {ops : Array Oper} {Q : Exit → Act → World → Prop} {a : Act} {w : World} {id n : Nat} {o : Oper} {c cap s r : Nat} {buf : Array Value} {z v : Value} {tm : Bool}
theorem wp_select_send_room (h0 : ops[0]? = some o) (hsz : ops.size = n + 1) (hg : o.guard = none) (hx : (execOp a.eval o).run P w = .ok (.comm #[scase c v z] false .select) w) (hc : w.heap[c]? = some (.chan cap buf false s r tm)) (hroom : buf.size < cap)
    (hrest : wpOps P ops Q (List.range' 1 n) (a.put o.dst (.tuple #[goInt 0, .bool false])) (w.setChan c cap (buf.push v) false (s + 1) r tm)) : (Code.region id ops false).wp P Q a w :=
  wp_region_comm h0 hsz (fun b k cs => by obtain ⟨es, hes⟩ := stepG_comm (rest := List.range' 1 n) h0 hg hx b k cs; exact step_lone_select_send_room hes hc hroom) hrest
theorem wp_select_send_full (h0 : ops[0]? = some o) (hsz : ops.size = n + 1) (hg : o.guard = none) (hx : (execOp a.eval o).run P w = .ok (.comm #[scase c v z] false .select) w) (hc : w.heap[c]? = some (.chan cap buf false s r tm)) (hroom : cap ≤ buf.size)
    (hrest : wpOps P ops Q (List.range' 1 n) (a.put o.dst (.tuple #[goInt (-1), .bool false])) w) : (Code.region id ops false).wp P Q a w :=
  wp_region_comm h0 hsz (fun b k cs => by obtain ⟨es, hes⟩ := stepG_comm (rest := List.range' 1 n) h0 hg hx b k cs; exact step_lone_select_send_full hes hc hroom) hrest
theorem wp_select_recv_buf (h0 : ops[0]? = some o) (hsz : ops.size = n + 1) (hg : o.guard = none) (hx : (execOp a.eval o).run P w = .ok (.comm #[rcase c z] false .select) w) (hc : w.heap[c]? = some (.chan cap buf false s r tm)) (hsome : 0 < buf.size)
    (hrest : wpOps P ops Q (List.range' 1 n) (a.put o.dst (.tuple #[goInt 0, .bool true, buf.getD 0 undef])) (w.setChan c cap (buf.extract 1 buf.size) false s (r + 1) tm)) : (Code.region id ops false).wp P Q a w :=
  wp_region_comm h0 hsz (fun b k cs => by obtain ⟨es, hes⟩ := stepG_comm (rest := List.range' 1 n) h0 hg hx b k cs; exact step_lone_select_recv_buf hes hc hsome) hrest
theorem wp_select_recv_none (h0 : ops[0]? = some o) (hsz : ops.size = n + 1) (hg : o.guard = none) (hx : (execOp a.eval o).run P w = .ok (.comm #[rcase c z] false .select) w) (hc : w.heap[c]? = some (.chan cap #[] false s r tm))
    (hrest : wpOps P ops Q (List.range' 1 n) (a.put o.dst (.tuple #[goInt (-1), .bool false, z])) w) : (Code.region id ops false).wp P Q a w :=
  wp_region_comm h0 hsz (fun b k cs => by obtain ⟨es, hes⟩ := stepG_comm (rest := List.range' 1 n) h0 hg hx b k cs; exact step_lone_select_default hes hc) hrest
theorem wpList_len_chan {rest : List Oper} {dir : ChanDir} {e : TypeId} {cl : Bool} (hgd : o.guard = none) (x : Operand) (t : TypeId) (ho : o.op = .call { callee := .builtin .len, args := #[x], argTypes := #[t] }) (ht : P.underlying t = some (.chan dir e)) (c : Nat)
    (hx : a.eval x = .chan (some c)) (hc : w.heap[c]? = some (.chan cap buf cl s r false)) (h : wpList P ops Q rest (a.put o.dst (goInt buf.size)) w) : wpList P ops Q (o :: rest) a w := by
  refine wpList_plain hgd fun K hK => ?_
  have hl := run_len_chan (P := P) t o.type ht hc
  unfold Oper.wp
  simp [execOp, ho, resolve, invoke, builtin, hx, hl, Result.andThen]
  exact hK _ _ h
theorem wpOps_range1 {l : List Oper} (hn : ops.toList = o :: l) (h : wpList P ops Q l a w) : wpOps P ops Q (List.range' 1 l.length) a w := by
  rw [wpOps_eq_wpList l 1 (fun j => by
    have : ops[1 + j]? = ops.toList[1 + j]? := by simp
    rw [this, hn, Nat.add_comm]; rfl)]
  exact h
end

/-- A queue of ints at block qb, of owner t. -/
structure QAt (w : World) (own : Nat → Nat) (t qb cap : Nat) (l : List Int) (cb s r : Nat) : Prop where
  mine : own qb = t
  minec : own cb = t
  heap : w.heap[qb]? = some (.cells #[.chan (some cb)] 218 (0, 0))
  chan : w.heap[cb]? = some (.chan cap ((l.map intV).toArray) false s r false)

theorem QAt.kept {w w' : World} {own own' : Nat → Nat} {t qb cap : Nat} {l : List Int} {cb s r : Nat} {A : Nat → Prop} (h : QAt w own t qb cap l cb s r) (hs : Step A w own w' own') (hA : ¬ A t) : QAt w' own' t qb cap l cb s r :=
  ⟨hs.own h.heap h.mine, hs.own h.chan h.minec, hs.heap h.heap (by rw [h.mine]; exact hA), hs.heap h.chan (by rw [h.minec]; exact hA)⟩

theorem QAt.keeps {w w' : World} {own : Nat → Nat} {t qb cap : Nat} {l : List Int} {cb s r : Nat} {M : Nat → Prop} (h : QAt w own t qb cap l cb s r) (hk : Keeps M w w') (h1 : ¬ M qb) (h2 : ¬ M cb) : QAt w' own t qb cap l cb s r :=
  ⟨h.mine, h.minec, hk.heap h.heap h1, hk.heap h.chan h2⟩
theorem keeps_setChan {M : Nat → Prop} {a w : World} (h : Keeps M a w) {c : Nat} (hc : c < a.heap.size → M c) (cap : Nat) (buf : Array Value) (cl : Bool) (s r : Nat) (tm : Bool) : Keeps M a (w.setChan c cap buf cl s r tm) :=
  h.trans' (N := fun k => k = c) ⟨rfl, rfl, rfl, by simp [World.setChan], fun k _ hk => by simp only [World.setChan]; rw [Array.getElem?_setIfInBounds_ne (by omega)]⟩ fun i hi hn => by subst hn; exact hc hi
theorem heap_setChan_ne (w : World) (c k cap : Nat) (buf : Array Value) (cl : Bool) (s r : Nat) (tm : Bool) (h : k ≠ c) : (w.setChan c cap buf cl s r tm).heap[k]? = w.heap[k]? := by
  simp only [World.setChan]; rw [Array.getElem?_setIfInBounds_ne (by omega)]

theorem QAt.chanOnly {w : World} {own : Nat → Nat} {t qb cap : Nat} {l : List Int} {cb s r : Nat} (h : QAt w own t qb cap l cb s r) (l' : List Int) (s' r' : Nat) {w' : World} (hw : w' = w.setChan cb cap ((l'.map intV).toArray) false s' r' false) :
    QAt w' own t qb cap l' cb s' r' ∧ Keeps (fun k => k = cb) w w' ∧ w'.heap.size = w.heap.size := by
  subst hw
  have h2 := lt_of h.chan
  have hne : qb ≠ cb := by
    intro e; subst e
    have := h.heap.symm.trans h.chan
    cases this
  refine ⟨⟨h.mine, h.minec, ?_, heap_setChan _ _ _ _ _ _ _ _ h2⟩, keeps_setChan (M := fun k => k = cb) (Keeps.refl _ _) (fun _ => rfl) _ _ _ _ _ _, size_setChan _ _ _ _ _ _ _ _⟩
  rw [heap_setChan_ne _ _ _ _ _ _ _ _ _ hne]; exact h.heap

theorem QAt.put {w : World} {own : Nat → Nat} {t qb cap : Nat} {l : List Int} {cb s r : Nat} (h : QAt w own t qb cap l cb s r) (l' : List Int) (s' r' : Nat) :
    QAt (w.setChan cb cap ((l'.map intV).toArray) false s' r' false) (ext own w.heap.size 0) t qb cap l' cb s' r' ∧ Step (fun k => k = t) w own (w.setChan cb cap ((l'.map intV).toArray) false s' r' false) (ext own w.heap.size 0) := by
  have h1 := lt_of h.heap
  have h2 := lt_of h.chan
  have hne : qb ≠ cb := by
    intro e; subst e
    have := h.heap.symm.trans h.chan
    cases this
  refine ⟨⟨?_, ?_, ?_, ?_⟩, Step.of_keeps (keeps_setChan (M := fun k => own k = t) (Keeps.refl _ _) (fun _ => h.minec) _ _ _ _ _ _) (.inl rfl)⟩
  · simp [ext, h1, h.mine]
  · simp [ext, h2, h.minec]
  · rw [heap_setChan_ne _ _ _ _ _ _ _ _ _ hne]; exact h.heap
  · exact heap_setChan _ _ _ _ _ _ _ _ h2

set_option maxHeartbeats 400000 in
theorem Put_calls (own : Nat → Nat) (t qb cap : Nat) (l : List Int) (cb s r : Nat) (x : Int) (w : World) (h : QAt w own t qb cap l cb s r) (hroom : l.length < cap) :
    Calls Tryz.prog 61 #[.pointer (some ⟨qb, 0, none⟩), .int .i64 x] w fun e w' => e = .returned (.int .i64 0) ∧ (QAt w' own t qb cap (l ++ [x]) cb (s + 1) r ∧ Keeps (fun k => k = cb) w w' ∧ w'.heap.size = w.heap.size) := by
  refine Calls.mono (R := fun e w' => e = .returned (.int .i64 0) ∧ w' = w.setChan cb cap (((l ++ [x]).map intV).toArray) false (s + 1) r false) ?_ (fun e w' he => ⟨he.1, h.chanOnly _ _ _ he.2⟩)
  have c0 := cell_of h.heap 0
  simp at c0
  have hch := hid h.chan
  go_enter Tryz.func61, Tryz.ntmps61
  go_upto_region 3 with (fail)
  refine wp_select_send_room rfl rfl rfl (c := cb) (v := .int .i64 x) (z := .int .i64 0) ?hx hch.out (by simpa using hroom) (wpOps_range1 rfl ?_)
  case hx => go_simp; rfl
  · go_wp2
    go_ret
    exact ⟨rfl, by simp [intV]⟩

set_option maxHeartbeats 400000 in
theorem Take_calls (own : Nat → Nat) (t qb cap : Nat) (x : Int) (l : List Int) (cb s r : Nat) (w : World) (h : QAt w own t qb cap (x :: l) cb s r) :
    Calls Tryz.prog 171 #[.pointer (some ⟨qb, 0, none⟩)] w fun e w' => e = .returned (.tuple #[.int .i64 x, .int .i64 0]) ∧ (QAt w' own t qb cap l cb s (r + 1) ∧ Keeps (fun k => k = cb) w w' ∧ w'.heap.size = w.heap.size) := by
  refine Calls.mono (R := fun e w' => e = .returned (.tuple #[.int .i64 x, .int .i64 0]) ∧ w' = w.setChan cb cap ((l.map intV).toArray) false s (r + 1) false) ?_ (fun e w' he => ⟨he.1, h.chanOnly _ _ _ he.2⟩)
  have c0 := cell_of h.heap 0
  simp at c0
  have hch := hid h.chan
  go_enter Tryz.func171, Tryz.ntmps171
  go_upto_region 2 with (fail)
  refine wp_select_recv_buf rfl rfl rfl (c := cb) (z := .int .i64 0) ?hx hch.out (by simp) (wpOps_range1 rfl ?_)
  case hx => go_simp; rfl
  · go_wp2
    go_ret2
    exact ⟨by first | rfl | simp [intV], by rw [List.take_of_length_le (by simp)]⟩

set_option maxHeartbeats 400000 in
theorem Take_none (own : Nat → Nat) (t qb cap : Nat) (cb s r : Nat) (w : World) (h : QAt w own t qb cap [] cb s r) :
    Calls Tryz.prog 171 #[.pointer (some ⟨qb, 0, none⟩)] w fun e w' => e = .returned (.tuple #[.int .i64 0, .int .i64 15]) ∧ w = w' := by
  have c0 := cell_of h.heap 0
  simp at c0
  have hch := hid h.chan
  go_enter Tryz.func171, Tryz.ntmps171
  go_upto_region 2 with (fail)
  refine wp_select_recv_none rfl rfl rfl (c := cb) (z := .int .i64 0) ?hx hch.out (wpOps_range1 rfl ?_)
  case hx => go_simp; rfl
  · go_wp2
    go_ret2
    exact ⟨rfl, rfl⟩

set_option maxHeartbeats 400000 in
theorem Len_calls (own : Nat → Nat) (t qb cap : Nat) (l : List Int) (cb s r : Nat) (w : World) (h : QAt w own t qb cap l cb s r) :
    Calls Tryz.prog 71 #[.pointer (some ⟨qb, 0, none⟩)] w fun e w' => e = .returned (.int .i64 l.length) ∧ w = w' := by
  have c0 := cell_of h.heap 0
  have hch := h.chan
  simp at c0
  have hch := hid h.chan
  go_enter Tryz.func71, Tryz.ntmps71
  go_wp2_with (at_len; refine wpList_len_chan rfl (.tmp 6) 216 rfl Tryz.underlying216 cb rfl hch.out ?_)
  go_ret
  exact ⟨by simp, rfl⟩
end Go.Rv

/- A range over a function, by the caller's invariant; the iterator by its contract. No program in sight. -/
namespace Go.Rv
open Go Go.RowKit

abbrev WF : Fence := Fence.wide

/-- the records of loops over functions -/
def ctl : Obj → Bool
  | .loop _ | .deferred _ => true
  | _ => false

/-- What an iterator may do between two rounds: turn blocks of A, records from n0 on, lay new blocks. -/
def IterStep (A : Nat → Prop) (n0 : Nat) (X Y : World) : Prop := Keeps (fun b => A b ∨ (n0 ≤ b ∧ ∃ o, X.heap[b]? = some o ∧ ctl o = true)) X Y

theorem IterStep.refl (A : Nat → Prop) (n0 : Nat) (X : World) : IterStep A n0 X X := Keeps.refl _ _
theorem IterStep.trans {A : Nat → Prop} {n0 : Nat} {X Y Z : World} (h : IterStep A n0 X Y) (k : IterStep A n0 Y Z) : IterStep A n0 X Z := by
  refine Keeps.trans' h k fun i hi hn => ?_
  rcases hn with hn | ⟨h0, o, ho, hc⟩
  · exact .inl hn
  · by_cases hA : A i
    · exact .inl hA
    · by_cases hx : ∃ o, X.heap[i]? = some o ∧ ctl o = true
      · exact .inr ⟨h0, hx⟩
      · refine .inr ⟨h0, o, ?_, hc⟩
        rw [← h.block i hi (fun e => e.elim hA (fun e => hx e.2))]
        exact ho
theorem IterStep.of_keeps {A M : Nat → Prop} {n0 : Nat} {X Y : World} (h : Keeps M X Y) (hs : ∀ i, i < X.heap.size → M i → A i) : IterStep A n0 X Y :=
  h.mono fun i hi hm => .inl (hs i hi hm)
theorem IterStep.put {A : Nat → Prop} {n0 : Nat} {X : World} {l : Nat} {o : Obj} (hl : n0 ≤ l) (h : X.heap[l]? = some o) (hc : ctl o = true) (o' : Obj) : IterStep A n0 X (X.putObj l o') :=
  ⟨rfl, rfl, rfl, by simp [World.putObj], fun k _ hk => World.putObj_heap_other (fun e => hk (.inr ⟨by omega, o, by rw [e]; exact h, hc⟩))⟩
theorem IterStep.mono {A B : Nat → Prop} {n0 n1 : Nat} {X Y : World} (h : IterStep A n0 X Y) (hs : ∀ i, A i → B i) (hn : n1 ≤ n0) : IterStep B n1 X Y :=
  Keeps.mono h fun i _ hm => hm.imp (hs i) fun e => ⟨by omega, e.2⟩

/-- The caller's invariant: how many rounds; which blocks of its own the body has laid and may turn; the world. -/
abbrev Inv := Nat → (Nat → Prop) → World → Prop

structure Grow (Bd D D' : Nat → Prop) (X Y : World) : Prop where
  keeps : Keeps (fun b => Bd b ∨ D b) X Y
  grow : ∀ b, D' b → D b ∨ X.heap.size ≤ b

theorem Grow.trans {Bd D D' D'' : Nat → Prop} {X Y Z : World} (h : Grow Bd D D' X Y) (k : Grow Bd D' D'' Y Z) : Grow Bd D D'' X Z :=
  ⟨h.keeps.trans' k.keeps fun i hi hn => hn.imp id fun hd => (h.grow i hd).resolve_right (by omega),
   fun b hb => by
    rcases k.grow b hb with h1 | h1
    · exact h.grow b h1
    · exact .inr (Nat.le_trans h.keeps.size h1)⟩

/-- The iterator gf, with lb captured, hands over just the rows xs, from world W on. -/
def Iter (P : Program) (gf : Nat) (lb : Array Value) (xs : List (Array Value)) (A Bd : Nat → Prop) (Fin : World → Prop) (W : World) : Prop :=
  ∀ (l : Nat) (J : Inv) (Jx : World → Prop),
    (∀ k D X Y, J k D X → IterStep A W.heap.size X Y → J k D Y) → (∀ X Y, Jx X → IterStep A W.heap.size X Y → Jx Y) →
    (∀ k D X, J k D X → ∀ b, D b → W.heap.size ≤ b ∧ b < X.heap.size) →
    (∀ k D X x, xs[k]? = some x → J k D X → W.heap.size ≤ X.heap.size → YieldAt WF 1 P l x X fun e Y =>
      (e = .returned (.bool true) ∧ ∃ D', J (k + 1) D' Y ∧ Grow Bd D D' X Y) ∨ (e = .returned (.bool false) ∧ Jx Y ∧ Keeps (fun b => Bd b ∨ D b ∨ b = l) X Y)) →
    (∃ r, W.heap[l]? = some (.loop r)) → J 0 (fun _ => False) W →
    CallsIn WF 2 P gf (#[.func (.yield l) #[] #[]] ++ lb) W fun e Y => (∃ v, e = .returned v) ∧ Fin Y ∧ ((∃ D, J xs.length D Y) ∨ Jx Y)

/-- How the body of a round is left. -/
def roundEnd (Bd : Nat → Prop) (I : Inv) (Ix : Code → World → Prop) (k : Nat) (D : Nat → Prop) (X : World) (e : Exit) (Y : World) : Prop :=
  ∃ D', Grow Bd D D' X Y ∧ match e with
    | .normal => I (k + 1) D' Y
    | .ret => Ix .ret Y
    | .exit id => Ix (.exit id) Y
    | .goto t => Ix (.goto t) Y
    | _ => False

theorem wpIn_range {P : Program} {g : Operand} {ps : Array Tmp} {assign body : Code} {Q : Exit → Act → World → Prop} {a : Act} {w : World}
    {gf : Nat} {lb : Array Value} (hg : a.eval g = .func (.func gf) #[] lb) (eg : ∀ args w, (callFunc gf args).run P w = .ok (.enter gf args) w)
    (xs : List (Array Value)) (A Bd : Nat → Prop) (Fin : World → Prop) (hps : ∀ x ∈ xs, x.size = ps.size) (hA : ∀ b, A b → b < w.heap.size) (hB : ∀ b, Bd b → b < w.heap.size)
    (hit : ∀ W, IterStep (fun _ => False) w.heap.size w W → W.heap.size = w.heap.size + 2 → Iter P gf lb xs A Bd Fin W) (hFin : ∀ X Y, Fin X → IterStep (fun _ => False) w.heap.size X Y → Fin Y)
    (I : Inv) (Ix : Code → World → Prop) (Ax : Nat → Act → (Nat → Prop) → World → Prop)
    (hI : ∀ k D X Y, I k D X → IterStep A w.heap.size X Y → I k D Y) (hIx : ∀ c X Y, Ix c X → IterStep A w.heap.size X Y → Ix c Y)
    (hAx : ∀ k a' D X Y, Ax k a' D X → IterStep A w.heap.size X Y → Ax k a' D Y)
    (hD : ∀ k D X, I k D X → ∀ b, D b → w.heap.size + 2 ≤ b ∧ b < X.heap.size)
    (hDx : ∀ k a' D X, Ax k a' D X → ∀ b, D b → w.heap.size + 2 ≤ b ∧ b < X.heap.size)
    (h0 : I 0 (fun _ => False) w)
    (hassign : ∀ (l k : Nat) (D : Nat → Prop) (x : Array Value) (X : World) (K : Act → World → Prop), xs[k]? = some x → w.heap.size + 2 ≤ X.heap.size → I k D X → (∀ a' D' Y, Grow Bd D D' X Y → Ax k a' D' Y → K a' Y) →
      assign.wpIn (WF.inRound l) 1 P (Exit.then K (fun _ _ _ => False)) { tmps := (ps.zip x).foldl (fun t (p, v) => t.setIfInBounds p v) a.tmps, defers := [] } X)
    (hbody : ∀ (l k : Nat) (a' : Act) (D : Nat → Prop) (X : World), k < xs.length → w.heap.size ≤ l → w.heap.size + 2 ≤ X.heap.size → (∃ r, X.heap[l]? = some (.loop r)) → Ax k a' D X →
      body.wpIn (WF.inRound l) 1 P (fun e _ Y => roundEnd Bd I Ix k D X e Y) a' X)
    (hdone : ∀ (D : Nat → Prop) (Y : World), Fin Y → I xs.length D Y → Y.heap[w.heap.size]? = some (.deferred (some [])) → Q .normal { a with defers := { target := .collected w.heap.size, args := #[] } :: a.defers } Y)
    (hstop : ∀ (c : Code) (Y : World), Fin Y → Ix c Y → Y.heap[w.heap.size]? = some (.deferred (some [])) → c.wpIn WF 3 P Q { a with defers := { target := .collected w.heap.size, args := #[] } :: a.defers } Y) :
    (Code.rangeFunc g ps assign body).wpIn WF 3 P Q a w := by
  refine wpIn_rangeFunc ?_
  intro fn hfn
  obtain ⟨rec, hrec⟩ : ∃ rec : LoopState → Option Code → Loop, rec = fun st pe => { state := st, pending := pe, fn, tmps := a.tmps, params := ps, assign, body, defers := w.heap.size } := ⟨_, rfl⟩
  obtain ⟨W1, hW1⟩ : ∃ W1, (w.alloc (.deferred (some []))).alloc (.loop (rec .ready none)) = W1 := ⟨_, rfl⟩
  have hL1 : W1.heap[w.heap.size + 1]? = some (.loop (rec .ready none)) := by
    rw [← hW1]; have := heap_new (w.alloc (.deferred (some []))) (.loop (rec .ready none)); rwa [World.size_alloc] at this
  have hK1 : W1.heap[w.heap.size]? = some (.deferred (some [])) := by
    rw [← hW1]; exact heap_old _ _ (heap_new w _)
  have hs1 : W1.heap.size = w.heap.size + 2 := by rw [← hW1]; simp
  have hst1 : IterStep A w.heap.size w W1 := by rw [← hW1]; exact ((Keeps.refl _ _).alloc _).alloc _
  have hI1 : I 0 (fun _ => False) W1 := hI _ _ _ _ h0 hst1
  have hAl : ∀ i, w.heap.size ≤ i → ¬ A i := fun i hi h => by have := hA i h; omega
  have hBl : ∀ i, w.heap.size ≤ i → ¬ Bd i := fun i hi h => by have := hB i h; omega
  -- what keeps the two records
  have kept : ∀ {X Y : World} {i : Nat} {o : Obj}, IterStep A W1.heap.size X Y → w.heap.size ≤ i → i < w.heap.size + 2 → X.heap[i]? = some o → Y.heap[i]? = some o := fun h h1 h2 ho =>
    Keeps.heap h ho (fun e => e.elim (hAl _ h1) (fun e => by have := e.1; omega))
  have keptG : ∀ {D D' : Nat → Prop} {X Y : World} {i : Nat} {o : Obj}, Grow Bd D D' X Y → (∀ b, D b → w.heap.size + 2 ≤ b) → w.heap.size ≤ i → i < w.heap.size + 2 → X.heap[i]? = some o → Y.heap[i]? = some o := fun h hd h1 h2 ho =>
    h.keeps.heap ho (fun e => e.elim (hBl _ h1) (fun e => by have := hd _ e; omega))
  refine ⟨w.heap.size + 1, [{ target := .collected w.heap.size, args := #[] }], W1, { target := .fn (.func gf) lb, args := #[.func (.yield (w.heap.size + 1)) #[] #[]] }, W1, gf,
    #[.func (.yield (w.heap.size + 1)) #[] #[]] ++ lb, W1, ?_, ?_, ?_, ?_, fun h => by simp [Fence.wide] at h, ?_⟩
  · rw [← hW1, hrec]; exact run_enterLoop_outer _ _ _ _ _
  · simp only [resolve, hg]
    simp [go_sem]
  · intro f' _; trivial
  · simp [invoke, go_sem, eg]
  · refine (hit W1 (by rw [← hW1]; exact ((Keeps.refl _ _).alloc _).alloc _) hs1 (w.heap.size + 1)
      (fun k D X => I k D X ∧ X.heap[w.heap.size + 1]? = some (.loop (rec .ready none)) ∧ X.heap[w.heap.size]? = some (.deferred (some [])))
      (fun X => ∃ c, Ix c X ∧ X.heap[w.heap.size + 1]? = some (.loop (rec .done (some c))) ∧ X.heap[w.heap.size]? = some (.deferred (some [])))
      (fun k D X Y h hs => ⟨hI _ _ _ _ h.1 (hs.mono (fun _ h => h) (by omega)), kept hs (by omega) (by omega) h.2.1, kept hs (by omega) (by omega) h.2.2⟩)
      (fun X Y ⟨c, h1, h2, h3⟩ hs => ⟨c, hIx _ _ _ h1 (hs.mono (fun _ h => h) (by omega)), kept hs (by omega) (by omega) h2, kept hs (by omega) (by omega) h3⟩)
      (fun k D X h b hb => by have := hD _ _ _ h.1 b hb; omega)
      ?_ ⟨_, hL1⟩ ⟨hI1, hL1, hK1⟩).mono ?_
    · rintro k D X x hx ⟨hi, hl, hk⟩ hsz
      have hklt : k < xs.length := (List.getElem?_eq_some_iff.1 hx).1
      have hy := run_yield (P := P) (args := x) hl (by rw [hrec]; exact hps x (List.mem_of_getElem? hx))
      rw [hrec] at hy
      refine ⟨fn, _, assign, body, hy, roundIn_of_wpIn hfn (hassign _ k D x X _ hx (by have := lt_of hl; omega) hi ?_)⟩
      clear hy
      intro a' D1 Xa hgr hax
      have hD0 := hD _ _ _ hi
      have hD1 := hDx _ _ _ _ hax
      have hl1 := keptG hgr (fun b hb => (hD0 b hb).1) (by omega) (by omega) hl
      have hk1 := keptG hgr (fun b hb => (hD0 b hb).1) (by omega) (by omega) hk
      refine ⟨_, run_beginRound hl1 (by rw [hrec]), ?_⟩
      obtain ⟨Xb, hXb⟩ : ∃ Xb, Xa.putObj (w.heap.size + 1) (.loop { rec .ready none with state := .busy }) = Xb := ⟨_, rfl⟩
      rw [hXb]
      have hl2 : Xb.heap[w.heap.size + 1]? = some (.loop { rec .ready none with state := .busy }) := by rw [← hXb]; exact World.putObj_heap_same (lt_of hl1)
      have hk2 : Xb.heap[w.heap.size]? = some (.deferred (some [])) := by rw [← hXb]; exact (World.putObj_heap_other (by omega)).trans hk1
      have hput : IterStep A w.heap.size Xa Xb := by rw [← hXb]; exact IterStep.put (by omega) hl1 rfl _
      have hsz2 : Xb.heap.size = Xa.heap.size := by rw [← hXb]; simp [World.putObj]
      refine wpIn_mono (hbody _ k a' D1 Xb hklt (by omega) (by have := lt_of hl2; omega) ⟨_, hl2⟩ (hAx _ _ _ _ _ hax hput)) ?_
      rintro e a3 Y ⟨D2, hg2, hp⟩
      have hl3 := keptG hg2 (fun b hb => (hD1 b hb).1) (by omega) (by omega) hl2
      have hk3 := keptG hg2 (fun b hb => (hD1 b hb).1) (by omega) (by omega) hk2
      have fin : ∀ (jump : Option Code), ∃ Z, (Instr.endRound (w.heap.size + 1) jump).run P Y = .ok (.bool jump.isNone) Z ∧ IterStep A w.heap.size Y Z ∧
          Z.heap[w.heap.size + 1]? = some (.loop (rec (if jump.isNone then .ready else .done) jump)) ∧ Z.heap[w.heap.size]? = some (.deferred (some [])) ∧ Keeps (fun b => b = w.heap.size + 1) Y Z := fun jump => by
        have := run_endRound (P := P) jump hl3
        rw [hrec] at this ⊢
        refine ⟨_, this, IterStep.put (by omega) hl3 rfl _, World.putObj_heap_same (lt_of hl3), (World.putObj_heap_other (by omega)).trans hk3, ⟨rfl, rfl, rfl, by simp [World.putObj], fun k _ hk => World.putObj_heap_other hk⟩⟩
      have whole : ∀ Z, Keeps (fun b => b = w.heap.size + 1) Y Z → Z.heap[w.heap.size + 1]? = some (.loop (rec .ready none)) → Grow Bd D D2 X Z := fun Z hz hzl => by
        refine ⟨⟨?_, ?_, ?_, ?_, ?_⟩, ?_⟩
        · rw [hz.os, hg2.keeps.os, hput.os, hgr.keeps.os]
        · rw [hz.tape, hg2.keeps.tape, hput.tape, hgr.keeps.tape]
        · rw [hz.output, hg2.keeps.output, hput.output, hgr.keeps.output]
        · have := hz.size; have := hg2.keeps.size; have := hgr.keeps.size; omega
        · intro i hi hn
          by_cases he : i = w.heap.size + 1
          · subst he; rw [hzl, hl]
          · have h1 := hgr.keeps.block i hi hn
            have hi2 : i < Xa.heap.size := Nat.lt_of_lt_of_le hi hgr.keeps.size
            have h2 : Xb.heap[i]? = Xa.heap[i]? := by rw [← hXb]; exact World.putObj_heap_other he
            have h3 := hg2.keeps.block i (by omega) (fun e => hn (e.imp id fun hd => (hgr.grow i hd).resolve_right (by omega)))
            have h4 := hz.block i (Nat.lt_of_lt_of_le (by omega) hg2.keeps.size) he
            rw [h4, h3, h2, h1]
        · intro b hb
          rcases hg2.grow b hb with h1 | h1
          · exact hgr.grow b h1
          · exact .inr (by have := hgr.keeps.size; omega)
      have part : ∀ Z, Keeps (fun b => b = w.heap.size + 1) Y Z → Keeps (fun b => Bd b ∨ D b ∨ b = w.heap.size + 1) X Z := fun Z hz => by
        refine ⟨?_, ?_, ?_, ?_, ?_⟩
        · rw [hz.os, hg2.keeps.os, hput.os, hgr.keeps.os]
        · rw [hz.tape, hg2.keeps.tape, hput.tape, hgr.keeps.tape]
        · rw [hz.output, hg2.keeps.output, hput.output, hgr.keeps.output]
        · have := hz.size; have := hg2.keeps.size; have := hgr.keeps.size; omega
        · intro i hi hn
          have he : i ≠ w.heap.size + 1 := fun e => hn (.inr (.inr e))
          have hn' : ¬ (Bd i ∨ D i) := fun e => hn (e.imp id .inl)
          have h1 := hgr.keeps.block i hi hn'
          have hi2 : i < Xa.heap.size := Nat.lt_of_lt_of_le hi hgr.keeps.size
          have h2 : Xb.heap[i]? = Xa.heap[i]? := by rw [← hXb]; exact World.putObj_heap_other he
          have h3 := hg2.keeps.block i (by omega) (fun e => hn' (e.imp id fun hd => (hgr.grow i hd).resolve_right (by omega)))
          have h4 := hz.block i (Nat.lt_of_lt_of_le (by omega) hg2.keeps.size) he
          rw [h4, h3, h2, h1]
      cases e with
      | normal =>
        obtain ⟨Z, hr, hst, hl4, hk4, hkz⟩ := fin none
        exact ⟨_, _, hr, .inl ⟨rfl, D2, ⟨hI _ _ _ _ hp hst, hl4, hk4⟩, whole Z hkz hl4⟩⟩
      | ret =>
        obtain ⟨Z, hr, hst, hl4, hk4, hkz⟩ := fin (some .ret)
        exact ⟨_, _, hr, .inr ⟨rfl, ⟨.ret, hIx _ _ _ hp hst, hl4, hk4⟩, part Z hkz⟩⟩
      | exit id =>
        obtain ⟨Z, hr, hst, hl4, hk4, hkz⟩ := fin (some (.exit id))
        exact ⟨_, _, hr, .inr ⟨rfl, ⟨.exit id, hIx _ _ _ hp hst, hl4, hk4⟩, part Z hkz⟩⟩
      | goto t =>
        obtain ⟨Z, hr, hst, hl4, hk4, hkz⟩ := fin (some (.goto t))
        exact ⟨_, _, hr, .inr ⟨rfl, ⟨.goto t, hIx _ _ _ hp hst, hl4, hk4⟩, part Z hkz⟩⟩
      | panic ch => exact hp.elim
      | outgrown => exact hp.elim
    · rintro e W2 ⟨⟨v, rfl⟩, hfin, (⟨D, hi, hl, hk⟩ | ⟨c, hi, hl, hk⟩)⟩
      · refine ⟨none, _, by have := run_endLoop (P := P) hl (by rw [hrec]; simp); rw [hrec] at this; exact this, ?_⟩
        exact hdone D _ (hFin _ _ hfin (IterStep.put (by omega) hl rfl _)) (hI _ _ _ _ hi (IterStep.put (by omega) hl rfl _)) ((World.putObj_heap_other (by omega)).trans hk)
      · refine ⟨some c, _, by have := run_endLoop (P := P) hl (by rw [hrec]; simp); rw [hrec] at this; exact this, ?_⟩
        exact hstop c _ (hFin _ _ hfin (IterStep.put (by omega) hl rfl _)) (hIx _ _ _ hi (IterStep.put (by omega) hl rfl _)) ((World.putObj_heap_other (by omega)).trans hk)

theorem room_none {F : Fence} (h : F.depth = none) (n : Nat) : F.room n := fun d hd => by rw [h] at hd; cases hd
theorem wpIn_any {F : Fence} (h : F.depth = none) {n m : Nat} {P : Program} {c : Code} {Q : Exit → Act → World → Prop} {a : Act} {w : World} (hc : c.wpIn F m P Q a w) : c.wpIn F n P Q a w :=
  fun b k cs hro hb _ => hc b k cs hro hb (room_none h _)
theorem roundIn_any {F : Fence} (h : F.depth = none) {n m : Nat} {P : Program} {l : Nat} {f : FuncId} {tmps : Array Value} {assign body : Code} {w : World} {R : Ending → World → Prop} (hc : RoundIn F m P l f tmps assign body w R) : RoundIn F n P l f tmps assign body w R :=
  ⟨hc.1, fun c cs _ => hc.2 c cs (room_none h _)⟩

def markOf (r : Nat) : Deferred := { target := .collected r, args := #[] }
/-- The marks that loops over functions have left on an activation. -/
structure Marks (w : World) (rs : List Nat) : Prop where
  nodup : rs.Nodup
  at_ : ∀ r ∈ rs, w.heap[r]? = some (.deferred (some []))

theorem Marks.keeps {w w' : World} {rs : List Nat} {M : Nat → Prop} (h : Marks w rs) (hk : Keeps M w w') (hm : ∀ r ∈ rs, ¬ M r) : Marks w' rs :=
  ⟨h.nodup, fun r hr => hk.heap (h.at_ r hr) (hm r hr)⟩

theorem leaves_marks {F : Fence} {n : Nat} {P : Program} {fn : Func} {tmps : Array Value} {R : Ending → World → Prop} {n0 : Nat} : ∀ (rs : List Nat) (w : World), Marks w rs → (∀ r ∈ rs, n0 ≤ r) →
    (∀ w', IterStep (fun _ => False) n0 w w' → LeavesIn F n P fn tmps R [] .returning w') → LeavesInM F n P fn tmps R (rs.map markOf) .returning w
  | [], w, _, _, h => h w (IterStep.refl _ _ _)
  | r :: rs, w, hm, hn, h => by
    have hr := hm.at_ r (List.mem_cons_self ..)
    have hnd := List.nodup_cons.1 hm.nodup
    refine ⟨by simp, .inl ⟨r, _, rfl, run_takeDeferred hr, ?_⟩⟩
    have hst : IterStep (fun _ => False) n0 w (w.putObj r (.deferred none)) := IterStep.put (hn r (List.mem_cons_self ..)) hr rfl _
    refine leaves_marks rs _ ⟨hnd.2, fun q hq => ?_⟩ (fun q hq => hn q (List.mem_cons_of_mem _ hq)) (fun w' hw' => h w' (hst.trans hw'))
    exact (World.putObj_heap_other (fun e => hnd.1 (by rw [← e]; exact hq))).trans (hm.at_ q (List.mem_cons_of_mem _ hq))

theorem wpIn_loop_k {F : Fence} {n : Nat} {P : Program} {Q : Exit → Act → World → Prop} {a : Act} {w : World} {c : Code} (I : Act → World → Prop) (μ : Act → World → Nat) (h₀ : I a w)
    (round : ∀ a w, I a w → ∀ K : Act → World → Prop, (∀ a' w', I a' w' → μ a' w' < μ a w → K a' w') → c.wpIn F n P (Exit.then K Q) a w) : (Code.loop c).wpIn F n P Q a w :=
  wpIn_loop I μ h₀ fun a w h => round a w h _ fun _ _ h1 h2 => ⟨h1, h2⟩

/-- the one mark of a function with one loop over a function. -/
theorem leaves_mark {F : Fence} {n : Nat} {P : Program} {fn : Func} {tmps : Array Value} {R : Ending → World → Prop} {r : Nat} {w : World} (hr : w.heap[r]? = some (.deferred (some []))) (v : Value)
    (hv : (results fn tmps).run P (w.putObj r (.deferred none)) = .ok v (w.putObj r (.deferred none)))
    (h : R (.returned v) (w.putObj r (.deferred none))) : LeavesInM F n P fn tmps R [markOf r] .returning w :=
  ⟨by simp, .inl ⟨r, _, rfl, run_takeDeferred hr, v, hv, h⟩⟩
theorem keeps_put {M : Nat → Prop} {a w : World} (h : Keeps M a w) {r : Nat} (hr : a.heap.size ≤ r) (o : Obj) : Keeps M a (w.putObj r o) :=
  h.trans' (N := fun k => k = r) ⟨rfl, rfl, rfl, by simp [World.putObj], fun k _ hk => World.putObj_heap_other hk⟩ fun i hi hn => by omega
theorem keeps_put' {M : Nat → Prop} {a w : World} (h : Keeps M a w) {r : Nat} (hr : r < a.heap.size → M r) (o : Obj) : Keeps M a (w.putObj r o) :=
  h.trans' (N := fun k => k = r) ⟨rfl, rfl, rfl, by simp [World.putObj], fun k _ hk => World.putObj_heap_other hk⟩ fun i hi hn => by subst hn; exact hr hi
theorem heap_put_ne {w : World} {r k : Nat} {o : Obj} {x : Obj} (h : w.heap[k]? = some x) (hne : k ≠ r) : (w.putObj r o).heap[k]? = some x := (World.putObj_heap_other hne).trans h

end Go.Rv
