/- Appending to a row whose owners are known: the new row's block is an old owner's, or a new one. -/
import Derived.Test.YtoijkpgcaokhlaaGreatPart01
import Derived.Test.YtoijkpgcaokhlaaGreatProg
import Derived.KernelRfl
import Derived.WalkKit
import Derived.Outline
import Derived.Deep.RegionLaw
import Derived.Deep.QuietTactic
import Derived.BigQuiet
import Derived.OwnWalk
set_option linter.unusedVariables false
set_option linter.unusedSimpArgs false
namespace Go.Rv
open Go Go.RowKit

section
variable {P : Program} {t ty e : TypeId} {i : TypeInfo} {z : Value} {size bytes n m c : Nat} {v : Value} {xs news : List Value} {Q : Nat → Prop} {a : Addr} {w : World}

theorem append_tag (ht : P.underlying t = some (.slice e)) (hi : P.info? e = some i) (hz : i.zero = some z)
    (hsize : i.size = size) (hby : i.bytes = bytes) (hzs : z.cells.size = size) (hsz : 0 < size) (hr : RowAt w Q e size v n xs)
    (hl : news.length = m * size) (hnews : ∀ j u, news[j]? = some u → w.cell? (a.add j) = some u) (h1 : ∀ u ∈ news, u.oneCell' = true)
    (h63 : n + m ≤ maxLen) (hbytes : (n + m) * bytes ≤ 140737488355328) (hm : 0 < m) :
    ∃ g cap w', (Builtin.append_ #[t, t] ty #[v, .slice (some a) m c]).run P w = .ok (.slice (some ⟨g, 0, none⟩) (n + m) cap) w' ∧
      w'.ownsRow 0 e size (.slice (some ⟨g, 0, none⟩) (n + m) cap) (n + m) (xs ++ news) ∧ (Q g ∨ w.heap.size ≤ g) ∧ Keeps Q w w' := by
  have hml : n + m ≤ 9223372036854775807 := by simp only [maxLen] at h63; omega
  have fresh : n = 0 → xs = [] → ∃ cap w', (Builtin.append_ #[t, t] ty #[.slice none 0 0, .slice (some a) m c]).run P w = .ok (.slice (some ⟨w.heap.size, 0, none⟩) m cap) w' ∧
      w' = w.drew.alloc (.cells (news.toArray ++ Builtin.zeroCells z.cells (grownCap w m 0 e - m)) e) ∧ cap = grownCap w m 0 e ∧
      w'.ownsRow 0 e size (.slice (some ⟨w.heap.size, 0, none⟩) m cap) m news ∧ Keeps Q w w' := by
    intro hn hx
    subst hn
    have q1 := run_append_nil (P := P) w t ty e i z ht hi hz a m c news (by rw [hsize]; exact hl) hnews hm (by omega) (by rw [hby]; have := hbytes; simp only [Nat.zero_add] at this; omega)
    obtain ⟨v', w', q2, q3, q4, -⟩ := run_append_own (P := P) w 0 t ty e i z size bytes ht hi hz hsize hby hzs hsz _ 0 [] (World.ownsRow_nil w 0 e size) a m c news hl hnews h1 (by omega) hbytes (Nat.zero_le _)
    rw [q1] at q2
    injection q2 with q5 q6
    subst q5; subst q6
    refine ⟨_, _, q1, rfl, rfl, by simpa using q3, ((Keeps.refl _ _).drew).alloc _⟩
  obtain ⟨hlen, ⟨b, rfl, hn⟩ | ⟨g, cap, cur, rfl, hq, hg, hnc, hcm, hcs, htake⟩⟩ := hr
  · have hx : xs = [] := List.eq_nil_of_length_eq_zero (by rw [hlen, hn]; simp)
    obtain ⟨cap, w', f1, f2, f3, f4, f5⟩ := fresh hn hx
    subst hn hx
    cases b with
    | none => exact ⟨_, cap, w', by simpa using f1, by simpa using f4, .inr (Nat.le_refl _), f5⟩
    | some b =>
      have q1 := run_append_grow (P := P) w t ty e i z ht hi hz b 0 0 [] (by simp) (by simp) a m c news (by rw [hsize]; exact hl) hnews (by omega) (by omega) (growslice_fits (by omega) (by rw [hby]; exact hbytes))
      refine ⟨_, cap, w', ?_, by simpa using f4, .inr (Nat.le_refl _), f5⟩
      rw [q1, f2, f3]
      simp
  · have hown : w.ownsRow 0 e size (.slice (some ⟨g, 0, none⟩) n cap) n xs := ⟨hlen, .inr ⟨g, cap, cur, rfl, Nat.zero_le _, hg, hnc, hcm, hcs, htake⟩⟩
    obtain ⟨v', w', q2, q3, q4, -⟩ := run_append_own (P := P) w 0 t ty e i z size bytes ht hi hz hsize hby hzs hsz _ n xs hown a m c news hl hnews h1 h63 hbytes (Nat.zero_le _)
    have hk : Keeps Q w w' := (Keeps.refl _ _).grown q4 fun k hk _ => by simp [Value.ownBlock] at hk; subst hk; exact hq
    by_cases hroom : n + m ≤ cap
    · have q1 := run_append_room (P := P) w t ty e i ht hi g n cap cur hg a m c news (by rw [hsize]; exact hl) hnews h1 hroom (by rw [hsize, hl, hcs, ← Nat.add_mul]; exact Nat.mul_le_mul_right _ hroom)
      have q5 := q1.symm.trans q2
      injection q5 with q6 q7
      subst q6
      exact ⟨g, cap, w', q2, q3, .inl hq, hk⟩
    · have q1 := run_append_grow (P := P) w t ty e i z ht hi hz ⟨g, 0, none⟩ n cap xs (by rw [hsize]; exact hlen) (hown.cells (g := g) rfl) a m c news (by rw [hsize]; exact hl) hnews (by omega) (by omega) (growslice_fits (by omega) (by rw [hby]; exact hbytes))
      have q5 := q1.symm.trans q2
      injection q5 with q6 q7
      subst q6
      exact ⟨_, _, w', q2, q3, .inr (Nat.le_refl _), hk⟩

theorem wp_append_tag {o : Oper} {f : Act} {K : Act → World → Prop} {E : Exit → Act → World → Prop} (s x : Operand)
    (ho : o.op = .call { callee := .builtin .append, args := #[s, x], argTypes := #[t, t] }) (ht : P.underlying t = some (.slice e)) (hi : P.info? e = some i) (hz : i.zero = some z)
    (hsize : i.size = size) (hby : i.bytes = bytes) (hzs : z.cells.size = size) (hsz : 0 < size) (hs : f.eval s = v) (hr : RowAt w Q e size v n xs)
    (hx : f.eval x = .slice (some a) m c) (hl : news.length = m * size) (hnews : ∀ j u, news[j]? = some u → w.cell? (a.add j) = some u) (h1 : ∀ u ∈ news, u.oneCell' = true)
    (h63 : n + m ≤ maxLen) (hbytes : (n + m) * bytes ≤ 140737488355328) (hm : 0 < m)
    (h : ∀ g cap w', w'.ownsRow 0 e size (.slice (some ⟨g, 0, none⟩) (n + m) cap) (n + m) (xs ++ news) → (Q g ∨ w.heap.size ≤ g) → Keeps Q w w' → K (f.put o.dst (.slice (some ⟨g, 0, none⟩) (n + m) cap)) w') : o.wp P f w K E := by
  obtain ⟨g, cap, w', q1, q2, q3, q4⟩ := append_tag (P := P) (ty := o.type) (c := c) ht hi hz hsize hby hzs hsz hr hl hnews h1 h63 hbytes hm
  unfold Oper.wp execOp
  simp only [ho, resolve, invoke, builtin, Sem.run_bind, Sem.run_pure, Result.andThen_ok, List.map_toArray, List.map_cons, List.map_nil, hs, hx, q1]
  exact h g cap w' q2 q3 q4

theorem wpList_append_tag {ops : Array Oper} {rest : List Oper} {o : Oper} {f : Act} {E : Exit → Act → World → Prop} (hgd : o.guard = none) (s x : Operand)
    (ho : o.op = .call { callee := .builtin .append, args := #[s, x], argTypes := #[t, t] }) (ht : P.underlying t = some (.slice e)) (hi : P.info? e = some i) (hz : i.zero = some z)
    (hsize : i.size = size) (hby : i.bytes = bytes) (hzs : z.cells.size = size) (hsz : 0 < size) (hs : f.eval s = v) (hr : RowAt w Q e size v n xs)
    (hx : f.eval x = .slice (some a) m c) (hl : news.length = m * size) (hnews : ∀ j u, news[j]? = some u → w.cell? (a.add j) = some u) (h1 : ∀ u ∈ news, u.oneCell' = true)
    (h63 : n + m ≤ maxLen) (hbytes : (n + m) * bytes ≤ 140737488355328) (hm : 0 < m)
    (h : ∀ g cap w', w'.ownsRow 0 e size (.slice (some ⟨g, 0, none⟩) (n + m) cap) (n + m) (xs ++ news) → (Q g ∨ w.heap.size ≤ g) → Keeps Q w w' → wpList P ops E rest (f.put o.dst (.slice (some ⟨g, 0, none⟩) (n + m) cap)) w') : wpList P ops E (o :: rest) f w :=
  wpList_plain hgd fun _ hK => wp_append_tag s x ho ht hi hz hsize hby hzs hsz hs hr hx hl hnews h1 h63 hbytes hm fun g cap w' q2 q3 q4 => hK _ _ (h g cap w' q2 q3 q4)

theorem step_append_tag {ops : Array Oper} {o : Oper} {f : Act} {K : Act → World → Prop} {E : Exit → Act → World → Prop} {R : Prop} (hg : o.guard = none) (s x : Operand)
    (ho : o.op = .call { callee := .builtin .append, args := #[s, x], argTypes := #[t, t] }) (ht : P.underlying t = some (.slice e)) (hi : P.info? e = some i) (hz : i.zero = some z)
    (hsize : i.size = size) (hby : i.bytes = bytes) (hzs : z.cells.size = size) (hsz : 0 < size) (hs : f.eval s = v) (hr : RowAt w Q e size v n xs)
    (hx : f.eval x = .slice (some a) m c) (hl : news.length = m * size) (hnews : ∀ j u, news[j]? = some u → w.cell? (a.add j) = some u) (h1 : ∀ u ∈ news, u.oneCell' = true)
    (h63 : n + m ≤ maxLen) (hbytes : (n + m) * bytes ≤ 140737488355328) (hm : 0 < m)
    (h : ∀ g cap w', w'.ownsRow 0 e size (.slice (some ⟨g, 0, none⟩) (n + m) cap) (n + m) (xs ++ news) → (Q g ∨ w.heap.size ≤ g) → Keeps Q w w' → K (f.put o.dst (.slice (some ⟨g, 0, none⟩) (n + m) cap)) w') :
    if Region.wanted o (yielded ops f.tmps) = true then Oper.wp P o f w K E else R := by
  rw [if_pos (by simp [Region.wanted, hg])]
  exact wp_append_tag s x ho ht hi hz hsize hby hzs hsz hs hr hx hl hnews h1 h63 hbytes hm h
end
end Go.Rv

/- Zones: what the functions of package zone do, on a zone in memory. -/
namespace Go.Rv
open Go Go.RowKit Go.Proofs

attribute [local go_sem ↓] ld_Sector st_Sector al_Sector bs_Sector
attribute [local go_sem] cellsAt_new0 cellsAt_lt cellsAt_drew size_bytesV

structure ZoneS where
  l : List (List UInt8)
  safe : Int
  state : Int
  fin : Bool

def cellsOf (l : List (List UInt8)) : List Value := l.flatMap fun s => s.map byteV
def secV (s : List UInt8) : Value := .agg (bytesV s)

/-- A zone at block zb, of owner t. -/
structure ZoneAt (w : World) (own : Nat → Nat) (t zb : Nat) (size : Int) (Z : ZoneS) (sv : Value) : Prop where
  mine : own zb = t
  heap : w.heap[zb]? = some (.cells #[sv, .int .i64 size, .int .i64 Z.safe, .int .i64 Z.state, .bool Z.fin] 240 (0, 0))
  row : RowAt w (fun k => own k = t) 103 64 sv Z.l.length (cellsOf Z.l)

def ZoneS.err (Z : ZoneS) : Int := if Z.state = 4 then 32 else if Z.state = 3 then 30 else 0

set_option maxHeartbeats 400000 in
theorem failed_calls (zb : Nat) (st : Int) (w : World) (h3 : w.cell? ⟨zb, 3, none⟩ = some (.int .i64 st)) :
   Calls Tryz.prog 237 #[.pointer (some ⟨zb, 0, none⟩)] w fun e w' => e = .returned (.int .i64 (if st = 4 then 32 else if st = 3 then 30 else 0)) ∧ w = w' := by
  by_cases h4 : st = 4
  · subst h4
    go_enter Tryz.func237, Tryz.ntmps237
    go_wp2
    go_ret
    exact ⟨rfl, rfl⟩
  · by_cases h5 : st = 3
    · subst h5
      go_enter Tryz.func237, Tryz.ntmps237
      go_wp2
      go_ret
      exact ⟨rfl, rfl⟩
    · have e4 : (st == 4) = false := by simpa using h4
      have e5 : (st == 3) = false := by simpa using h5
      rw [if_neg h4, if_neg h5]
      go_enter Tryz.func237, Tryz.ntmps237
      go_wp2
      go_ret
      exact ⟨rfl, rfl⟩


def ZoneS.append (size : Int) (Z : ZoneS) (s : List UInt8) : ZoneS × Int × Int :=
  if Z.state = 4 then (Z, 0, 32) else if Z.state = 3 then (Z, 0, 30) else if Z.state = 2 then (Z, 0, 17)
  else ({ Z with l := Z.l ++ [s], state := if (Z.l.length : Int) + 1 = size then 2 else 1 }, Z.l.length, 0)

theorem ZoneAt.row' {w : World} {own : Nat → Nat} {t zb : Nat} {size : Int} {Z : ZoneS} {sv : Value} (h : ZoneAt w own t zb size Z sv) : RowAt w (fun k => own k = t ∧ k ≠ zb) 103 64 sv Z.l.length (cellsOf Z.l) :=
  h.row.ne fun cur e => by have := h.heap.symm.trans e; cases this

theorem cellsOf_append (l : List (List UInt8)) (s : List UInt8) : cellsOf (l ++ [s]) = cellsOf l ++ s.map byteV := by simp [cellsOf]

theorem byte_one (s : List UInt8) : ∀ u ∈ s.map byteV, u.oneCell' = true := by
  intro u hu
  obtain ⟨b, _, rfl⟩ := List.mem_map.1 hu
  rfl
theorem byte_cells (w : World) (s : List UInt8) (e : TypeId) : ∀ j u, (s.map byteV)[j]? = some u → ((w.alloc (.cells (bytesV s) e)).drew).cell? ((⟨w.heap.size, 0, none⟩ : Addr).add j) = some u := by
  intro j u hu
  have h : (w.alloc (.cells (bytesV s) e)).drew.heap[w.heap.size]? = some (.cells (bytesV s) e (0, 0)) := heap_new w _
  have ha : (⟨w.heap.size, 0, none⟩ : Addr).add j = ⟨w.heap.size, j, none⟩ := by unfold Addr.add; split <;> simp_all
  rw [ha, cell_of h]
  simpa [bytesV] using hu

theorem append_fin {own : Nat → Nat} {t zb g cap : Nat} {size : Int} {Z : ZoneS} {sv : Value} {w w1 W : World} {s : List UInt8} {st : Int} (h : ZoneAt w own t zb size Z sv) (hset : Settled own w)
    (kk : Keeps (fun k => own k = t ∧ k ≠ zb) w w1) (ho : w1.ownsRow 0 103 64 (.slice (some ⟨g, 0, none⟩) (Z.l.length + 1) cap) (Z.l.length + 1) (cellsOf Z.l ++ s.map byteV))
    (hq : own g = t ∧ g ≠ zb ∨ w.heap.size ≤ g) (hk : Keeps (fun k => k = zb) w1 W)
    (hz : W.heap[zb]? = some (.cells #[.slice (some ⟨g, 0, none⟩) (Z.l.length + 1) cap, .int .i64 size, .int .i64 Z.safe, .int .i64 st, .bool Z.fin] 240 (0, 0))) :
    ∃ own', (∃ x, ZoneAt W own' t zb size { l := Z.l ++ [s], safe := Z.safe, state := st, fin := Z.fin } x) ∧ Step (fun k => k = t) w own W own' ∧ Settled own' W := by
  have hzw := lt_of h.heap
  have hg : g ≠ zb := hq.elim (fun h => h.2) (fun h => by omega)
  have hgw : g < W.heap.size := Nat.lt_of_lt_of_le (ownsRow_block ho rfl).2.1 hk.size
  have hK : Keeps (fun k => own k = t) w W := (kk.mono fun _ _ h => h.1).trans' hk fun i _ hi => by subst hi; exact h.mine
  refine ⟨tag own g t, ⟨_, tag_same h.mine, hz, ?_⟩, Step.tag hK hset rfl (hq.imp (fun h => h.1) id) hgw⟩
  rw [cellsOf_append, List.length_append, List.length_singleton]
  exact (rowAt_of_owns ho (P := fun k => k = g) rfl).keeps hk (fun k hk => by omega) |>.imp fun k _ hk => by subst hk; exact tag_self _ _ _

set_option maxHeartbeats 1000000 in
set_option maxRecDepth 100000 in
theorem append_go (own : Nat → Nat) (t zb : Nat) (size : Int) (Z : ZoneS) (sv : Value) (w : World) (s : List UInt8) (hs : s.length = 64) (h : ZoneAt w own t zb size Z sv) (hset : Settled own w)
   (hlen : Z.l.length ≤ 64) (full : Bool) (hfull : ((Z.l.length : Int) + 1 == size) = full)
   (h4 : Z.state ≠ 4) (h3 : Z.state ≠ 3) (h2 : (Z.state == 2) = false) :
   Calls Tryz.prog 223 #[.pointer (some ⟨zb, 0, none⟩), secV s] w fun e w' =>
     e = .returned (.tuple #[.int .i64 Z.l.length, .int .i64 0]) ∧ ∃ own' sv', ZoneAt w' own' t zb size { Z with l := Z.l ++ [s], state := if full then 2 else 1 } sv' ∧ Step (fun k => k = t) w own w' own' ∧ Settled own' w' := by
  have H := hid h
  have HS := hid hset
  have hh := h.heap
  have HR : Hid (∀ W, Keeps (fun _ => False) w W → RowAt W (fun k => own k = t ∧ k ≠ zb) 103 64 sv Z.l.length (cellsOf Z.l)) := fun W hk => h.row'.keeps hk fun _ _ h => h
  have c0 := cell_of hh 0
  have c1 := cell_of hh 1
  have c2 := cell_of hh 2
  have c3 := cell_of hh 3
  have c4 := cell_of hh 4
  have f0 := free_of hh 0
  have f3 := free_of hh 3
  have hb := lt_of hh
  have HH := hid hh
  simp at c0 c1 c2 c3 c4
  obtain ⟨i0, hi, hz0, hz1, hz2⟩ := info_parts info_Sector
  have hb1 : zb < w.heap.size + 1 := by omega
  clear h hset hh
  cases full
  all_goals
    unfold secV
    go_enter Tryz.func223, Tryz.ntmps223
    go_wp2_with fail
    refine Calls.mono (failed_calls zb Z.state _ ?_) ?_
    · go_simp
    rw [if_neg h4, if_neg h3]
    rintro e w' ⟨rfl, rfl⟩
    go_wp2_with fail
    go_region_law ((refine step_append_tag rfl (.tmp 21) (.tmp 23) rfl Tryz.underlying129 hi hz0 hz1 hz2 size_z_Sector (by decide) (by simp [Act.eval]) (HR.out _ (by repeat (first | exact Keeps.refl _ _ | refine Keeps.alloc ?_ _ | refine Keeps.drew ?_))) (news := s.map byteV) (a := ⟨w.heap.size + 1, 0, none⟩) (m := 1) (c := 1) rfl (by simp [hs]) (by have := byte_cells (w.alloc (.cells (bytesV s) 103)) s 103; simpa using this) (byte_one s) (by simp only [maxLen]; omega) (by omega) (by omega) ?_; intro g' cap' w1 hown1 hq1 kk0; have kk : Keeps (fun k => own k = t ∧ k ≠ zb) w w1 := Keeps.trans (by repeat (first | exact Keeps.refl _ _ | refine Keeps.alloc ?_ _ | refine Keeps.drew ?_)) kk0; have hh1 := kk.heap HH.out (by simp); have d0 := cell_of hh1 0; have d1 := cell_of hh1 1; have d3 := cell_of hh1 3; have g0 := free_of hh1 0; have g3 := free_of hh1 3; simp at d0 d1 d3; have KK := hid kk; have HO1 := hid hown1; have HH1 := hid hh1; have HQ1 := hid hq1; clear kk kk0 hown1 hh1 hq1))
    all_goals go_wp2_with fail
    all_goals go_quiet (fail)
    all_goals go_wp2_with fail
    all_goals
      go_ret2
      refine ⟨rfl, append_fin H.out HS.out KK.out HO1.out (HQ1.out.imp id fun h => by simp at h; omega) ?_ ?_⟩
      · repeat (first | exact Keeps.refl _ _ | refine Keeps.drewN ?_ _ | refine keeps_set ?_ _ _)
      · have q := heap_set (heap_set HH1.out 0 (.slice (some ⟨g', 0, none⟩) (Z.l.length + 1) cap')) 3 (.int .i64 1)
        have q1 := heap_dn (n := nq) q
        have q2 := heap_set q1 3 (.int .i64 2)
        clear q
        first | exact q1 | exact q2
end Go.Rv

/- Zones: the rest. -/
namespace Go.Rv
open Go Go.RowKit Go.Proofs
attribute [local go_sem ↓] ld_Sector st_Sector al_Sector bs_Sector
attribute [local go_sem] cellsAt_new0 cellsAt_lt cellsAt_drew size_bytesV

theorem zint {a b : Int} (h : a = b) : Value.int .i64 a = .int .i64 b := by rw [h]

set_option maxHeartbeats 1000000 in
set_option maxRecDepth 100000 in
theorem append_bad (zb : Nat) (st : Int) (w : World) (s : List UInt8) (hs : s.length = 64) (h3 : w.cell? ⟨zb, 3, none⟩ = some (.int .i64 st)) (hb : zb < w.heap.size) (hst : st = 4 ∨ st = 3 ∨ st = 2) :
   Calls Tryz.prog 223 #[.pointer (some ⟨zb, 0, none⟩), secV s] w fun e w' =>
     e = .returned (.tuple #[.int .i64 0, .int .i64 (if st = 4 then 32 else if st = 3 then 30 else 17)]) ∧ Keeps (fun _ => False) w w' := by
  have hb1 : zb < w.heap.size + 1 := by omega
  unfold secV
  obtain ⟨st', hst'⟩ : ∃ x : Int, x = st := ⟨_, rfl⟩
  rcases hst with rfl | rfl | rfl
  all_goals
    go_enter Tryz.func223, Tryz.ntmps223
    go_wp2_with fail
    refine Calls.mono (failed_calls zb st' _ ?_) ?_
    · rw [hst']; go_simp
    rw [hst']
    rintro e w' ⟨rfl, rfl⟩
    go_wp2_with fail
    go_ret2
    exact ⟨rfl, (by repeat (first | exact Keeps.refl _ _ | refine Keeps.alloc ?_ _ | refine Keeps.drew ?_ | refine Keeps.drewN ?_ _ | refine Keeps.trans ?_ (by assumption)))⟩

theorem ZoneAt.keeps {w w' : World} {own : Nat → Nat} {t zb : Nat} {size : Int} {Z : ZoneS} {sv : Value} (h : ZoneAt w own t zb size Z sv) {M : Nat → Prop} (hk : Keeps M w w') (hm : ∀ k, own k = t → ¬ M k) : ZoneAt w' own t zb size Z sv :=
  ⟨h.mine, hk.heap h.heap (hm _ h.mine), h.row.keeps hk hm⟩
theorem ZoneAt.kept {w w' : World} {own own' : Nat → Nat} {t zb : Nat} {size : Int} {Z : ZoneS} {sv : Value} (h : ZoneAt w own t zb size Z sv) {A : Nat → Prop} (hs : Step A w own w' own') (ht : ¬ A t) : ZoneAt w' own' t zb size Z sv :=
  ⟨hs.own h.heap h.mine, hs.heap h.heap (by rw [h.mine]; exact ht), hs.row h.row ht⟩

theorem zappend_calls (own : Nat → Nat) (t zb : Nat) (size : Int) (Z : ZoneS) (sv : Value) (w : World) (s : List UInt8) (hs : s.length = 64) (h : ZoneAt w own t zb size Z sv) (hset : Settled own w) (hlen : Z.l.length ≤ 64) :
   Calls Tryz.prog 223 #[.pointer (some ⟨zb, 0, none⟩), secV s] w fun e w' =>
     e = .returned (.tuple #[.int .i64 (Z.append size s).2.1, .int .i64 (Z.append size s).2.2]) ∧ ∃ own' sv', ZoneAt w' own' t zb size (Z.append size s).1 sv' ∧ Step (fun k => k = t) w own w' own' ∧ Settled own' w' := by
  have c3 := cell_of h.heap 3
  simp at c3
  by_cases hst : Z.state = 4 ∨ Z.state = 3 ∨ Z.state = 2
  · refine (append_bad zb Z.state w s hs c3 (lt_of h.heap) hst).mono ?_
    rintro e w' ⟨rfl, hk⟩
    have hz : Z.append size s = (Z, 0, if Z.state = 4 then 32 else if Z.state = 3 then 30 else 17) := by
      unfold ZoneS.append
      rcases hst with h | h | h <;> simp [h]
    rw [hz]
    exact ⟨rfl, own, sv, h.keeps hk (fun _ _ => id), Step.kept (hk.mono fun _ _ h => h.elim) hset⟩
  · have h4 : Z.state ≠ 4 := fun e => hst (.inl e)
    have h3 : Z.state ≠ 3 := fun e => hst (.inr (.inl e))
    have h2 : Z.state ≠ 2 := fun e => hst (.inr (.inr e))
    refine (append_go own t zb size Z sv w s hs h hset hlen _ rfl h4 h3 (by simpa using h2)).mono ?_
    rintro e w' ⟨rfl, own', sv', h⟩
    have hz : Z.append size s = ({ Z with l := Z.l ++ [s], state := if ((Z.l.length : Int) + 1 == size) = true then 2 else 1 }, (Z.l.length : Int), 0) := by
      unfold ZoneS.append
      rw [if_neg h4, if_neg h3, if_neg h2]
      simp
    rw [hz]
    exact ⟨rfl, own', sv', h⟩

theorem zstate_calls (zb : Nat) (st : Int) (w : World) (h3 : w.cell? ⟨zb, 3, none⟩ = some (.int .i64 st)) :
   Calls Tryz.prog 86 #[.pointer (some ⟨zb, 0, none⟩)] w fun e w' => e = .returned (.int .i64 st) ∧ w = w' := by
  go_enter Tryz.func86, Tryz.ntmps86
  go_wp2
  go_ret
  exact ⟨rfl, rfl⟩

theorem zlen_calls (own : Nat → Nat) (t zb : Nat) (size : Int) (Z : ZoneS) (sv : Value) (w : World) (h : ZoneAt w own t zb size Z sv) :
   Calls Tryz.prog 137 #[.pointer (some ⟨zb, 0, none⟩)] w fun e w' => e = .returned (.int .i64 Z.l.length) ∧ w = w' := by
  have c0 := cell_of h.heap 0
  simp at c0
  obtain ⟨a, cap, rfl⟩ := h.row.slice
  clear h
  go_enter Tryz.func137, Tryz.ntmps137
  go_wp2
  go_ret
  exact ⟨rfl, rfl⟩

def ZoneS.reset (Z : ZoneS) : ZoneS × Int := if Z.state = 4 then (Z, 32) else if Z.state = 3 then (Z, 30) else (⟨[], 0, 0, false⟩, 0)
def ZoneS.finish (Z : ZoneS) : ZoneS × Int := if Z.state = 4 then (Z, 32) else if Z.state = 3 then (Z, 30) else ({ Z with state := 2, fin := true }, 0)
def ZoneS.flush (Z : ZoneS) : ZoneS := { Z with safe := Z.l.length }
def ZoneS.fail (Z : ZoneS) (st : Int) : ZoneS := if st = 4 ∨ st = 3 ∧ Z.state ≠ 4 then { Z with state := st } else Z

theorem ZoneAt.upd {w W : World} {own : Nat → Nat} {t zb : Nat} {size : Int} {Z : ZoneS} {sv sv' : Value} {l' : List (List UInt8)} {safe' state' : Int} {fin' : Bool} (h : ZoneAt w own t zb size Z sv) (hk : Keeps (fun k => k = zb) w W)
    (hz : W.heap[zb]? = some (.cells #[sv', .int .i64 size, .int .i64 safe', .int .i64 state', .bool fin'] 240 (0, 0))) (hv : sv' = sv ∧ l' = Z.l ∨ sv' = .slice none 0 0 ∧ l' = []) : ZoneAt W own t zb size ⟨l', safe', state', fin'⟩ sv' ∧ Keeps (fun k => own k = t) w W := by
  refine ⟨⟨h.mine, hz, ?_⟩, hk.mono fun i _ hi => by subst hi; exact h.mine⟩
  rcases hv with ⟨rfl, rfl⟩ | ⟨rfl, rfl⟩
  · exact (h.row'.keeps hk fun k hk e => hk.2 e).imp fun k _ h => h.1
  · exact RowAt.nil _ _ _ _

theorem zcells {w : World} {own : Nat → Nat} {t zb : Nat} {size : Int} {Z : ZoneS} {sv : Value} (h : ZoneAt w own t zb size Z sv) : w.cell? ⟨zb, 0, none⟩ = some sv ∧ w.cell? ⟨zb, 1, none⟩ = some (.int .i64 size) ∧ w.cell? ⟨zb, 2, none⟩ = some (.int .i64 Z.safe) ∧ w.cell? ⟨zb, 3, none⟩ = some (.int .i64 Z.state) ∧ w.cell? ⟨zb, 4, none⟩ = some (.bool Z.fin) ∧ w.frozen? ⟨zb, 0, none⟩ = false ∧ w.frozen? ⟨zb, 2, none⟩ = false ∧ w.frozen? ⟨zb, 3, none⟩ = false ∧ w.frozen? ⟨zb, 4, none⟩ = false ∧ zb < w.heap.size :=
  ⟨cell_of h.heap 0, cell_of h.heap 1, cell_of h.heap 2, cell_of h.heap 3, cell_of h.heap 4, free_of h.heap 0, free_of h.heap 2, free_of h.heap 3, free_of h.heap 4, lt_of h.heap⟩

set_option maxHeartbeats 1000000 in
theorem zreset_calls (own : Nat → Nat) (t zb : Nat) (size : Int) (Z : ZoneS) (sv : Value) (w : World) (h : ZoneAt w own t zb size Z sv) :
   Calls Tryz.prog 236 #[.pointer (some ⟨zb, 0, none⟩)] w fun e w' => e = .returned (.int .i64 Z.reset.2) ∧ (∃ sv', ZoneAt w' own t zb size Z.reset.1 sv') ∧ Keeps (fun k => own k = t) w w' := by
  obtain ⟨c0, c1, c2, c3, c4, f0, f2, f3, f4, hb⟩ := zcells h
  have H := hid h
  clear h
  by_cases hst : Z.state = 4 ∨ Z.state = 3
  · obtain ⟨st', hst'⟩ : ∃ x : Int, x = Z.state := ⟨_, rfl⟩
    have hz : Z.reset = (Z, if Z.state = 4 then 32 else 30) := by unfold ZoneS.reset; rcases hst with h | h <;> simp [h]
    have HZ := hid hz
    clear hz
    rcases hst with h | h
    all_goals
      rw [h] at c3 HZ
      have HST := hid h
      clear h
      go_enter Tryz.func236, Tryz.ntmps236
      go_wp2_with fail
      refine Calls.mono (failed_calls zb st' _ ?_) ?_
      · rw [hst', HST.out]; go_simp
      rw [hst', HST.out]
      rintro e w' ⟨rfl, rfl⟩
      go_wp2_with fail
      go_ret
      rw [HZ.out]
      exact ⟨rfl, ⟨sv, H.out⟩, Keeps.refl _ _⟩
  · have h4 : Z.state ≠ 4 := fun e => hst (.inl e)
    have h3 : Z.state ≠ 3 := fun e => hst (.inr e)
    have hz : Z.reset = (⟨[], 0, 0, false⟩, 0) := by unfold ZoneS.reset; rw [if_neg h4, if_neg h3]
    rw [hz]
    clear hst hz
    go_enter Tryz.func236, Tryz.ntmps236
    go_wp2_with fail
    refine Calls.mono (failed_calls zb Z.state _ c3) ?_
    rw [if_neg h4, if_neg h3]
    rintro e w' ⟨rfl, rfl⟩
    go_wp2_with fail
    go_ret
    have q := heap_set (heap_set (heap_set (heap_set H.out.heap 0 (.slice none 0 0)) 2 (.int .i64 0)) 3 (.int .i64 0)) 4 (.bool false)
    have := ZoneAt.upd (l' := []) H.out (by repeat (first | exact Keeps.refl _ _ | refine keeps_set ?_ _ _)) q (.inr ⟨rfl, rfl⟩)
    exact ⟨rfl, ⟨_, this.1⟩, this.2⟩
end Go.Rv

/- Zones: finishing, flushing, failing, reading, making. -/
namespace Go.Rv
open Go Go.RowKit Go.Proofs
attribute [local go_sem ↓] ld_Sector st_Sector al_Sector bs_Sector
attribute [local go_sem] cellsAt_new0 cellsAt_lt cellsAt_drew size_bytesV

set_option maxHeartbeats 1000000 in
theorem zfinish_calls (own : Nat → Nat) (t zb : Nat) (size : Int) (Z : ZoneS) (sv : Value) (w : World) (h : ZoneAt w own t zb size Z sv) :
   Calls Tryz.prog 224 #[.pointer (some ⟨zb, 0, none⟩)] w fun e w' => e = .returned (.int .i64 Z.finish.2) ∧ (∃ sv', ZoneAt w' own t zb size Z.finish.1 sv') ∧ Keeps (fun k => own k = t) w w' := by
  obtain ⟨c0, c1, c2, c3, c4, f0, f2, f3, f4, hb⟩ := zcells h
  have H := hid h
  clear h
  by_cases hst : Z.state = 4 ∨ Z.state = 3
  · obtain ⟨st', hst'⟩ : ∃ x : Int, x = Z.state := ⟨_, rfl⟩
    have hz : Z.finish = (Z, if Z.state = 4 then 32 else 30) := by unfold ZoneS.finish; rcases hst with h | h <;> simp [h]
    have HZ := hid hz
    clear hz
    rcases hst with h | h
    all_goals
      rw [h] at c3 HZ
      have HST := hid h
      clear h
      go_enter Tryz.func224, Tryz.ntmps224
      go_wp2_with fail
      refine Calls.mono (failed_calls zb st' _ ?_) ?_
      · rw [hst', HST.out]; go_simp
      rw [hst', HST.out]
      rintro e w' ⟨rfl, rfl⟩
      go_wp2_with fail
      go_ret
      rw [HZ.out]
      exact ⟨rfl, ⟨sv, H.out⟩, Keeps.refl _ _⟩
  · have h4 : Z.state ≠ 4 := fun e => hst (.inl e)
    have h3 : Z.state ≠ 3 := fun e => hst (.inr e)
    have hz : Z.finish = ({ Z with state := 2, fin := true }, 0) := by unfold ZoneS.finish; rw [if_neg h4, if_neg h3]
    rw [hz]
    clear hst hz
    go_enter Tryz.func224, Tryz.ntmps224
    go_wp2_with fail
    refine Calls.mono (failed_calls zb Z.state _ c3) ?_
    rw [if_neg h4, if_neg h3]
    rintro e w' ⟨rfl, rfl⟩
    go_wp2_with fail
    go_ret
    have q := heap_set (heap_set H.out.heap 3 (.int .i64 2)) 4 (.bool true)
    have := ZoneAt.upd (l' := Z.l) H.out (by repeat (first | exact Keeps.refl _ _ | refine keeps_set ?_ _ _)) q (.inl ⟨rfl, rfl⟩)
    exact ⟨rfl, ⟨_, this.1⟩, this.2⟩

theorem zflush_calls (own : Nat → Nat) (t zb : Nat) (size : Int) (Z : ZoneS) (sv : Value) (w : World) (h : ZoneAt w own t zb size Z sv) :
   Calls Tryz.prog 170 #[.pointer (some ⟨zb, 0, none⟩)] w fun e w' => e = .returned (.tuple #[]) ∧ (∃ sv', ZoneAt w' own t zb size Z.flush sv') ∧ Keeps (fun k => own k = t) w w' := by
  obtain ⟨a, cap, rfl⟩ := h.row.slice
  obtain ⟨c0, c1, c2, c3, c4, f0, f2, f3, f4, hb⟩ := zcells h
  have H := hid h
  clear h
  go_enter Tryz.func170, Tryz.ntmps170
  go_wp2_with fail
  go_end0
  have q := heap_set H.out.heap 2 (.int .i64 (Z.l.length : Int))
  have := ZoneAt.upd (l' := Z.l) H.out (by repeat (first | exact Keeps.refl _ _ | refine keeps_set ?_ _ _)) q (.inl ⟨rfl, rfl⟩)
  exact ⟨rfl, ⟨_, this.1⟩, this.2⟩

theorem znew_bad (size : Int) (h : size < 1 ∨ 64 < size) (w : World) : Calls Tryz.prog 125 #[.int .i64 size] w fun e w' => e = .returned (.tuple #[.pointer none, .int .i64 13]) ∧ w = w' := by
  by_cases k1 : size < 1
  · have d1 : decide (size < 1) = true := by simpa using k1
    go_enter Tryz.func125, Tryz.ntmps125
    go_wp2
    go_ret2
    exact ⟨rfl, rfl⟩
  · have d1 : decide (size < 1) = false := by simpa using k1
    have d2 : decide (64 < size) = true := by simp; omega
    go_enter Tryz.func125, Tryz.ntmps125
    go_wp2
    go_ret2
    exact ⟨rfl, rfl⟩
theorem znew_good (size : Int) (h1 : 1 ≤ size) (h2 : size ≤ 64) (w : World) : Calls Tryz.prog 125 #[.int .i64 size] w fun e w' => e = .returned (.tuple #[.pointer (some ⟨w.heap.size, 0, none⟩), .int .i64 0]) ∧ w' = w.alloc (.cells #[.slice none 0 0, .int .i64 size, .int .i64 0, .int .i64 0, .bool false] 240) := by
  have d1 : decide (size < 1) = false := by simp; omega
  have d2 : decide (64 < size) = false := by simp; omega
  go_enter Tryz.func125, Tryz.ntmps125
  go_wp2
  go_ret2
  exact ⟨rfl, rfl⟩

set_option maxHeartbeats 1000000 in
theorem zfail_calls (own : Nat → Nat) (t zb : Nat) (size : Int) (Z : ZoneS) (sv : Value) (st : Int) (w : World) (h : ZoneAt w own t zb size Z sv) :
   Calls Tryz.prog 227 #[.pointer (some ⟨zb, 0, none⟩), .int .i64 st] w fun e w' => e = .returned (.tuple #[]) ∧ (∃ sv', ZoneAt w' own t zb size (Z.fail st) sv') ∧ Keeps (fun k => own k = t) w w' := by
  obtain ⟨c0, c1, c2, c3, c4, f0, f2, f3, f4, hb⟩ := zcells h
  have H := hid h
  clear h
  have q := heap_set H.out.heap 3 (.int .i64 st)
  have hu := ZoneAt.upd (l' := Z.l) H.out (by repeat (first | exact Keeps.refl _ _ | refine keeps_set ?_ _ _)) q (.inl ⟨rfl, rfl⟩)
  have HU := hid hu
  clear q hu
  by_cases k1 : st = 4
  · have b1 : (st == 4) = true := by simpa using k1
    have hz : Z.fail st = { Z with state := st } := by unfold ZoneS.fail; rw [if_pos (.inl k1)]
    rw [hz]
    clear k1 hz
    go_enter Tryz.func227, Tryz.ntmps227
    go_wp2_with fail
    go_end0
    exact ⟨rfl, ⟨_, HU.out.1⟩, HU.out.2⟩
  · have b1 : (st == 4) = false := by simpa using k1
    by_cases k2 : st = 3
    · have b2 : (st == 3) = true := by simpa using k2
      by_cases k3 : Z.state = 4
      · have b3 : (Z.state != 4) = false := by simpa using k3
        have hz : Z.fail st = Z := by unfold ZoneS.fail; rw [if_neg (by omega)]
        rw [hz]
        clear k1 k2 k3 hz
        go_enter Tryz.func227, Tryz.ntmps227
        go_wp2_with fail
        go_end0
        exact ⟨rfl, ⟨_, H.out⟩, Keeps.refl _ _⟩
      · have b3 : (Z.state != 4) = true := by simpa using k3
        have hz : Z.fail st = { Z with state := st } := by unfold ZoneS.fail; rw [if_pos (.inr ⟨k2, k3⟩)]
        rw [hz]
        clear k1 k2 k3 hz
        go_enter Tryz.func227, Tryz.ntmps227
        go_wp2_with fail
        go_end0
        exact ⟨rfl, ⟨_, HU.out.1⟩, HU.out.2⟩
    · have b2 : (st == 3) = false := by simpa using k2
      have hz : Z.fail st = Z := by unfold ZoneS.fail; rw [if_neg (by omega)]
      rw [hz]
      clear k1 k2 hz
      go_enter Tryz.func227, Tryz.ntmps227
      go_wp2_with fail
      go_end0
      exact ⟨rfl, ⟨_, H.out⟩, Keeps.refl _ _⟩
end Go.Rv
