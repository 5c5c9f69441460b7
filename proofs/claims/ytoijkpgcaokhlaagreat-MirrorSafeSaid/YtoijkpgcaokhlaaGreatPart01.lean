/- Words for worlds: what a call keeps, who owns which block; no program in sight. -/
import Derived.WalkKit
import Derived.Below
import Derived.Laws.AppendOwn
import Derived.Deep.Draws
import Derived.Test.YtoijkpgcaokhlaaGreatProg
import Derived.KernelRfl
import Derived.Laws.Rows
import Derived.OwnWalk
set_option linter.unusedVariables false
set_option linter.unusedSimpArgs false
namespace Go.Rv
open Go Go.RowKit

/-- From w to w': the streams stay, no block goes, and every block that was there stays as it was, but those of M. -/
structure Keeps (M : Nat → Prop) (w w' : World) : Prop where
  os : w'.os = w.os
  tape : w'.tape = w.tape
  output : w'.output = w.output
  size : w.heap.size ≤ w'.heap.size
  block : ∀ k, k < w.heap.size → ¬ M k → w'.heap[k]? = w.heap[k]?

theorem Keeps.refl (M : Nat → Prop) (w : World) : Keeps M w w := ⟨rfl, rfl, rfl, Nat.le_refl _, fun _ _ _ => rfl⟩

theorem Keeps.trans' {M N : Nat → Prop} {a b c : World} (h : Keeps M a b) (k : Keeps N b c) (hs : ∀ i, i < a.heap.size → N i → M i) : Keeps M a c :=
  ⟨k.os.trans h.os, k.tape.trans h.tape, k.output.trans h.output, Nat.le_trans h.size k.size,
   fun i hi hm => (k.block i (Nat.lt_of_lt_of_le hi h.size) (fun hn => hm (hs i hi hn))).trans (h.block i hi hm)⟩

theorem Keeps.trans {M : Nat → Prop} {a b c : World} (h : Keeps M a b) (k : Keeps M b c) : Keeps M a c := h.trans' k fun _ _ h => h

theorem Keeps.mono {M N : Nat → Prop} {a b : World} (h : Keeps M a b) (hs : ∀ i, i < a.heap.size → M i → N i) : Keeps N a b :=
  ⟨h.os, h.tape, h.output, h.size, fun i hi hm => h.block i hi (fun hn => hm (hs i hi hn))⟩

theorem Keeps.below {M : Nat → Prop} {a b : World} (h : Keeps M a b) {B : Nat} (hB : B ≤ a.heap.size) (hs : ∀ i, i < B → ¬ M i) : Below B a b :=
  ⟨h.os, h.tape, h.output, h.size, fun i hi => h.block i (by omega) (hs i hi)⟩

theorem Keeps.of_below {M : Nat → Prop} {a b : World} (h : Below a.heap.size a b) : Keeps M a b :=
  ⟨h.os, h.tape, h.output, h.size, fun i hi _ => h.block i hi⟩

theorem Keeps.alloc {M : Nat → Prop} {a w : World} (h : Keeps M a w) (o : Obj) : Keeps M a (w.alloc o) :=
  h.trans' (N := fun _ => False) ⟨rfl, rfl, rfl, by simp, fun k hk _ => Below.heap_alloc _ _ _ (by omega)⟩ fun _ _ h => h.elim

theorem Keeps.setCell {M : Nat → Prop} {a w : World} (h : Keeps M a w) {p : Addr} (hp : p.block < a.heap.size → M p.block) (u : Value) : Keeps M a (w.setCell p u) :=
  h.trans' (N := fun k => k = p.block) ⟨rfl, rfl, rfl, by simp [World.setCell], fun k _ hk => Below.heap_setCell _ _ _ _ hk⟩ fun i hi hn => by subst hn; exact hp hi

theorem Keeps.drew {M : Nat → Prop} {a w : World} (h : Keeps M a w) : Keeps M a w.drew := ⟨h.os, h.tape, h.output, h.size, h.block⟩

theorem Keeps.drewN {M : Nat → Prop} {a w : World} (h : Keeps M a w) (n : Nat) : Keeps M a (w.drewN n) := ⟨h.os, h.tape, h.output, h.size, h.block⟩

theorem Keeps.grown {M : Nat → Prop} {a w w' : World} {row : Option Nat} (h : Keeps M a w) (hg : w.grownBy w' row) (hr : ∀ k, row = some k → k < a.heap.size → M k) : Keeps M a w' :=
  h.trans' (N := fun k => row = some k) ⟨hg.os, hg.tape, hg.output, hg.size, fun k hk hn => hg.block k hk (fun e => hn e.symm)⟩ fun i hi hn => hr i hn hi

theorem Keeps.heap {M : Nat → Prop} {w w' : World} (h : Keeps M w w') {k : Nat} {o : Obj} (ho : w.heap[k]? = some o) (hm : ¬ M k) : w'.heap[k]? = some o :=
  (h.block k (Array.getElem?_eq_some_iff.1 ho).1 hm).trans ho

theorem Keeps.cell {M : Nat → Prop} {w w' : World} (h : Keeps M w w') {p : Addr} (hp : p.block < w.heap.size) (hm : ¬ M p.block) : w'.cell? p = w.cell? p := World.cell?_of_block (w := w) (h.block p.block hp hm)
theorem Keeps.frozen {M : Nat → Prop} {w w' : World} (h : Keeps M w w') {p : Addr} (hp : p.block < w.heap.size) (hm : ¬ M p.block) : w'.frozen? p = w.frozen? p := World.frozen?_of_block (w := w) (h.block p.block hp hm)

theorem hid {p : Prop} (h : p) : Hid p := h

/-- the cells of a block that is known whole. -/
theorem cell_of {w : World} {b : Nat} {c : Array Value} {e : TypeId} {f : Nat × Nat} (h : w.heap[b]? = some (.cells c e f)) (o : Nat) : w.cell? ⟨b, o, none⟩ = c[o]? := by
  simp [World.cell?, h]
theorem free_of {w : World} {b : Nat} {c : Array Value} {e : TypeId} (h : w.heap[b]? = some (.cells c e (0, 0))) (o : Nat) : w.frozen? ⟨b, o, none⟩ = false := by
  simp [World.frozen?, h]
theorem lt_of {w : World} {b : Nat} {o : Obj} (h : w.heap[b]? = some o) : b < w.heap.size := (Array.getElem?_eq_some_iff.1 h).1
theorem heap_set {w : World} {b : Nat} {c : Array Value} {e : TypeId} {f : Nat × Nat} (h : w.heap[b]? = some (.cells c e f)) (o : Nat) (v : Value) :
    (w.setCell ⟨b, o, none⟩ v).heap[b]? = some (.cells (c.setIfInBounds o v) e f) := by
  simp [World.setCell, Array.getElem?_modify, h]
theorem heap_set_ne {w : World} {b k : Nat} (o : Nat) (v : Value) (h : k ≠ b) : (w.setCell ⟨b, o, none⟩ v).heap[k]? = w.heap[k]? := Below.heap_setCell _ _ _ _ h
theorem heap_new (w : World) (o : Obj) : (w.alloc o).heap[w.heap.size]? = some o := by
  show (w.heap.push o)[w.heap.size]? = _
  simp
theorem heap_old (w : World) (o : Obj) {k : Nat} {x : Obj} (h : w.heap[k]? = some x) : (w.alloc o).heap[k]? = some x := (Below.heap_alloc w o k (lt_of h)).trans h
theorem size_set (w : World) (a : Addr) (v : Value) : (w.setCell a v).heap.size = w.heap.size := by simp [World.setCell]

/-- A byte, as a value; a list of them as an array's value. -/
def byteV (b : UInt8) : Value := .int .u8 (b.toNat : Int)
def bytesV (l : List UInt8) : Array Value := (l.map byteV).toArray
def intV (n : Int) : Value := .int .i64 n

/-- The row that a slice shows: its elements' cells xs, in a block of P (nil is the empty one; so is what has no room). -/
def RowAt (w : World) (P : Nat → Prop) (e : TypeId) (size : Nat) (v : Value) (n : Nat) (xs : List Value) : Prop :=
  xs.length = n * size ∧ ((∃ a, v = .slice a 0 0 ∧ n = 0) ∨
    ∃ g cap cur, v = .slice (some ⟨g, 0, none⟩) n cap ∧ P g ∧ w.heap[g]? = some (.cells cur e (0, 0)) ∧ n ≤ cap ∧ cap ≤ maxLen ∧ cur.size = cap * size ∧ cur.toList.take (n * size) = xs)

theorem RowAt.keeps {w w' : World} {P M : Nat → Prop} {e : TypeId} {size : Nat} {v : Value} {n : Nat} {xs : List Value} (h : RowAt w P e size v n xs) (hk : Keeps M w w') (hd : ∀ k, P k → ¬ M k) : RowAt w' P e size v n xs := by
  obtain ⟨h1, h2 | ⟨g, cap, cur, hv, hp, hh, h3⟩⟩ := h
  · exact ⟨h1, .inl h2⟩
  · exact ⟨h1, .inr ⟨g, cap, cur, hv, hp, hk.heap hh (hd g hp), h3⟩⟩

theorem RowAt.imp {w : World} {P Q : Nat → Prop} {e : TypeId} {size : Nat} {v : Value} {n : Nat} {xs : List Value} (h : RowAt w P e size v n xs) (hd : ∀ k, k < w.heap.size → P k → Q k) : RowAt w Q e size v n xs := by
  obtain ⟨h1, h2 | ⟨g, cap, cur, hv, hp, hh, h3⟩⟩ := h
  · exact ⟨h1, .inl h2⟩
  · exact ⟨h1, .inr ⟨g, cap, cur, hv, hd g (lt_of hh) hp, hh, h3⟩⟩

theorem RowAt.nil (w : World) (P : Nat → Prop) (e : TypeId) (size : Nat) : RowAt w P e size (.slice none 0 0) 0 [] := ⟨by simp, .inl ⟨none, rfl, rfl⟩⟩

/-- A step: only blocks whose owner is of A may turn; owners stay; new blocks are nobody's (0) or of A. -/
structure Step (A : Nat → Prop) (w : World) (own : Nat → Nat) (w' : World) (own' : Nat → Nat) : Prop where
  keeps : Keeps (fun k => A (own k)) w w'
  agree : ∀ k, k < w.heap.size → own' k = own k
  fresh : ∀ k, w.heap.size ≤ k → own' k = 0 ∨ A (own' k)

/-- The owners, with new blocks from n on given to t. -/
def ext (own : Nat → Nat) (n t : Nat) : Nat → Nat := fun k => if k < n then own k else t

theorem Step.refl (A : Nat → Prop) (w : World) (own : Nat → Nat) : Step A w own w (ext own w.heap.size 0) :=
  ⟨Keeps.refl _ _, fun k hk => by simp [ext, hk], fun k hk => .inl (by simp [ext]; omega)⟩

theorem Step.of_keeps {A : Nat → Prop} {w w' : World} {own : Nat → Nat} {t : Nat} (h : Keeps (fun k => A (own k)) w w') (ht : t = 0 ∨ A t) : Step A w own w' (ext own w.heap.size t) :=
  ⟨h, fun k hk => by simp [ext, hk], fun k hk => by have : ¬ k < w.heap.size := by omega
                                                    simpa [ext, this] using ht⟩

theorem Step.of_below {A : Nat → Prop} {w w' : World} {own : Nat → Nat} (h : Below w.heap.size w w') : Step A w own w' (ext own w.heap.size 0) :=
  Step.of_keeps (Keeps.of_below h) (.inl rfl)

theorem Step.trans {A : Nat → Prop} {a b c : World} {o p q : Nat → Nat} (h : Step A a o b p) (k : Step A b p c q) : Step A a o c q :=
  ⟨h.keeps.trans' k.keeps fun i hi hn => by rw [h.agree i hi] at hn; exact hn,
   fun i hi => (k.agree i (Nat.lt_of_lt_of_le hi h.keeps.size)).trans (h.agree i hi),
   fun i hi => by
    rcases Nat.lt_or_ge i b.heap.size with hb | hb
    · rw [k.agree i hb]; exact h.fresh i hi
    · exact k.fresh i hb⟩

theorem Step.mono {A B : Nat → Prop} {a b : World} {o p : Nat → Nat} (h : Step A a o b p) (hs : ∀ t, A t → B t) : Step B a o b p :=
  ⟨h.keeps.mono fun _ _ h => hs _ h, h.agree, fun k hk => (h.fresh k hk).imp id (hs _)⟩

theorem Step.heap {A : Nat → Prop} {w w' : World} {own own' : Nat → Nat} (h : Step A w own w' own') {k : Nat} {o : Obj} (ho : w.heap[k]? = some o) (hm : ¬ A (own k)) : w'.heap[k]? = some o :=
  h.keeps.heap ho hm
theorem Step.own {A : Nat → Prop} {w w' : World} {own own' : Nat → Nat} (h : Step A w own w' own') {k t : Nat} {o : Obj} (ho : w.heap[k]? = some o) (hm : own k = t) : own' k = t :=
  (h.agree k (lt_of ho)).trans hm

/-- A row whose owner is not of A stays. -/
theorem Step.row {A : Nat → Prop} {w w' : World} {own own' : Nat → Nat} (h : Step A w own w' own') {t : Nat} {e : TypeId} {size : Nat} {v : Value} {n : Nat} {xs : List Value}
    (hr : RowAt w (fun k => own k = t) e size v n xs) (hm : ¬ A t) : RowAt w' (fun k => own' k = t) e size v n xs :=
  (hr.imp (Q := fun k => k < w.heap.size ∧ own k = t) fun k hk ho => ⟨hk, ho⟩).keeps h.keeps (fun k hk hA => hm (by rw [← hk.2]; exact hA)) |>.imp fun k _ hk => (h.agree k hk.1).trans hk.2

/-- The row as the kit's laws of append want it. -/
theorem RowAt.owns {w : World} {P : Nat → Prop} {e : TypeId} {size : Nat} {v : Value} {n : Nat} {xs : List Value} (h : RowAt w P e size v n xs) (hv : ∀ a, v ≠ .slice (some a) 0 0) : w.ownsRow 0 e size v n xs := by
  obtain ⟨h1, ⟨a, hv', hn⟩ | ⟨g, cap, cur, hv', hp, hh, h3⟩⟩ := h
  · cases a with
    | none => exact ⟨h1, .inl ⟨hv', hn⟩⟩
    | some a => exact absurd hv' (hv a)
  · exact ⟨h1, .inr ⟨g, cap, cur, hv', Nat.zero_le _, hh, h3⟩⟩

theorem RowAt.slice {w : World} {P : Nat → Prop} {e : TypeId} {size : Nat} {v : Value} {n : Nat} {xs : List Value} (h : RowAt w P e size v n xs) : ∃ a cap, v = .slice a n cap := by
  obtain ⟨h1, ⟨a, hv', hn⟩ | ⟨g, cap, cur, hv', hp, hh, h3⟩⟩ := h
  · exact ⟨a, 0, by rw [hv', hn]⟩
  · exact ⟨_, cap, hv'⟩

theorem ownsRow_succ' {w : World} {base : Nat} {e : TypeId} {size : Nat} {v : Value} {n : Nat} {xs : List Value} (h : w.ownsRow base e size v (n + 1) xs) : ∃ g cap, v = .slice (some ⟨g, 0, none⟩) (n + 1) cap := by
  obtain ⟨_, ⟨_, h2⟩ | ⟨g, cap, cur, hv, _⟩⟩ := h
  · omega
  · exact ⟨g, cap, hv⟩

theorem ownsRow_slice {w : World} {base : Nat} {e : TypeId} {size : Nat} {v : Value} {n : Nat} {xs : List Value} (h : w.ownsRow base e size v n xs) : ∃ a cap, v = .slice a n cap := by
  obtain ⟨_, ⟨h1, h2⟩ | ⟨g, cap, cur, hv, _⟩⟩ := h
  · exact ⟨none, 0, by rw [h1, h2]⟩
  · exact ⟨_, cap, hv⟩

theorem ownsRow_keeps {w w' : World} {B : Nat} {e : TypeId} {size : Nat} {v : Value} {n : Nat} {xs : List Value} {M : Nat → Prop} (h : w.ownsRow B e size v n xs) (hk : Keeps M w w') (hm : ∀ g, v.ownBlock = some g → B ≤ g → g < w.heap.size → ¬ M g) : w'.ownsRow B e size v n xs := by
  obtain ⟨h1, h2 | ⟨g, cap, cur, hv, hg, hh, h3⟩⟩ := h
  · exact ⟨h1, .inl h2⟩
  · exact ⟨h1, .inr ⟨g, cap, cur, hv, hg, hk.heap hh (hm g (by rw [hv]; rfl) hg (lt_of hh)), h3⟩⟩

/-- what a slice's own row says of its block. -/
theorem ownsRow_block {w : World} {B : Nat} {e : TypeId} {size : Nat} {v : Value} {n : Nat} {xs : List Value} (h : w.ownsRow B e size v n xs) {g : Nat} (hg : v.ownBlock = some g) : B ≤ g ∧ g < w.heap.size ∧ ∃ cur, w.heap[g]? = some (.cells cur e (0, 0)) := by
  obtain ⟨_, ⟨h1, h2⟩ | ⟨g', cap, cur, hv, hB, hh, _⟩⟩ := h
  · rw [h1] at hg; cases hg
  · rw [hv] at hg; cases hg
    exact ⟨hB, lt_of hh, cur, hh⟩

/-- the element j of a row of one-cell elements. -/
theorem ownsRow_cell {w : World} {B : Nat} {e : TypeId} {a : Option Addr} {n cap : Nat} {xs : List Value} (h : w.ownsRow B e 1 (.slice a n cap) n xs) {j : Nat} (hj : j < n) : ∃ g, a = some ⟨g, 0, none⟩ ∧ w.cell? ⟨g, j, none⟩ = xs[j]? := by
  obtain ⟨_, ⟨h1, h2⟩ | ⟨g, cap', cur, hv, hB, hh, h1, h2, h3, h4⟩⟩ := h
  · omega
  · cases hv
    refine ⟨g, rfl, ?_⟩
    rw [cell_of hh, ← h4, List.getElem?_take, if_pos (by omega)]
    simp

/-- no owner is told beyond the heap. -/
def Settled (own : Nat → Nat) (w : World) : Prop := ∀ k, w.heap.size ≤ k → own k = 0
/-- one block more (or the same) is t's. -/
def tag (own : Nat → Nat) (g t : Nat) : Nat → Nat := fun k => if k = g then t else own k
theorem tag_self (own : Nat → Nat) (g t : Nat) : tag own g t g = t := by simp [tag]
theorem tag_same {own : Nat → Nat} {g t k : Nat} (h : own k = t) : tag own g t k = t := by unfold tag; split <;> first | rfl | exact h
theorem tag_ne {own : Nat → Nat} {g t k : Nat} (h : k ≠ g) : tag own g t k = own k := by simp [tag, h]
theorem Settled.keeps {own : Nat → Nat} {M : Nat → Prop} {w w' : World} (h : Settled own w) (hk : Keeps M w w') : Settled own w' := fun k hs => h k (Nat.le_trans hk.size hs)
theorem Step.kept {A : Nat → Prop} {own : Nat → Nat} {w w' : World} (h : Keeps (fun k => A (own k)) w w') (hs : Settled own w) : Step A w own w' own ∧ Settled own w' :=
  ⟨⟨h, fun _ _ => rfl, fun k hk => .inl (hs k hk)⟩, hs.keeps h⟩
theorem Step.tag {A : Nat → Prop} {own : Nat → Nat} {w w' : World} {g t : Nat} (h : Keeps (fun k => A (own k)) w w') (hs : Settled own w) (ht : A t) (hg : own g = t ∨ w.heap.size ≤ g) (hg' : g < w'.heap.size) : Step A w own w' (tag own g t) ∧ Settled (tag own g t) w' := by
  refine ⟨⟨h, fun k hk => ?_, fun k hk => ?_⟩, fun k hk => ?_⟩
  · by_cases e : k = g
    · subst e; rw [tag_self]; rcases hg with hg | hg
      · exact hg.symm
      · omega
    · exact tag_ne e
  · by_cases e : k = g
    · subst e; rw [tag_self]; exact .inr ht
    · rw [tag_ne e]; exact .inl (hs k hk)
  · rw [tag_ne (by omega)]; exact hs k (Nat.le_trans h.size hk)
theorem rowAt_of_owns {w : World} {P : Nat → Prop} {e : TypeId} {size g n cap : Nat} {xs : List Value} (h : w.ownsRow 0 e size (.slice (some ⟨g, 0, none⟩) n cap) n xs) (hp : P g) : RowAt w P e size (.slice (some ⟨g, 0, none⟩) n cap) n xs := by
  obtain ⟨h1, ⟨h2, _⟩ | ⟨g', cap', cur, hv, _, hh, h3⟩⟩ := h
  · cases h2
  · cases hv; exact ⟨h1, .inr ⟨g, cap, cur, rfl, hp, hh, h3⟩⟩
theorem RowAt.ne {w : World} {P : Nat → Prop} {e : TypeId} {size : Nat} {v : Value} {n : Nat} {xs : List Value} (h : RowAt w P e size v n xs) {b : Nat} (hb : ∀ cur, w.heap[b]? ≠ some (.cells cur e (0, 0))) : RowAt w (fun k => P k ∧ k ≠ b) e size v n xs := by
  obtain ⟨h1, h2 | ⟨g, cap, cur, hv, hp, hh, h3⟩⟩ := h
  · exact ⟨h1, .inl h2⟩
  · exact ⟨h1, .inr ⟨g, cap, cur, hv, ⟨hp, fun e => hb cur (e ▸ hh)⟩, hh, h3⟩⟩
/-- the cell j of element i of a row. -/
theorem RowAt.cell {w : World} {P : Nat → Prop} {e : TypeId} {size : Nat} {v : Value} {n : Nat} {xs : List Value} (h : RowAt w P e size v n xs) {a : Option Addr} {m cap : Nat} (hv : v = .slice a m cap) (hn : 0 < n) : ∃ g, a = some ⟨g, 0, none⟩ ∧ m = n ∧ P g ∧ g < w.heap.size ∧ ∀ j u, xs[j]? = some u → w.cell? ⟨g, j, none⟩ = some u := by
  obtain ⟨h1, ⟨_, _, h2⟩ | ⟨g, cap', cur, hv', hp, hh, h3, h4, h5, h6⟩⟩ := h
  · omega
  · rw [hv] at hv'; cases hv'
    refine ⟨g, rfl, rfl, hp, lt_of hh, fun j u hu => ?_⟩
    rw [cell_of hh, ← Array.getElem?_toList]
    rw [← h6, List.getElem?_take] at hu
    split at hu
    · exact hu
    · cases hu

theorem keeps_set {w w' : World} {b : Nat} (h : Keeps (fun k => k = b) w w') (o : Nat) (v : Value) : Keeps (fun k => k = b) w (w'.setCell ⟨b, o, none⟩ v) := h.setCell (fun _ => rfl) v
theorem heap_dn {w : World} {b n : Nat} {x : Option Obj} (h : w.heap[b]? = x) : (w.drewN n).heap[b]? = x := h
theorem heap_d {w : World} {b : Nat} {x : Option Obj} (h : w.heap[b]? = x) : w.drew.heap[b]? = x := h

theorem take_succ_map {α β : Type} (l : List α) (f : α → β) (k : Nat) (h : k < l.length) : (l.take (k + 1)).map f = (l.take k).map f ++ [f l[k]] := by
  rw [List.take_succ_eq_append_getElem h, List.map_append]; rfl

end Go.Rv

/- Arrays that are read and written whole: the rules by which the walk takes them in one step. -/
namespace Go.Rv
open Go Go.RowKit Go.Proofs

/-- n cells from an address on, all there. -/
def cellsAt (w : World) (a : Addr) (n : Nat) : Option (Array Value) :=
  match w.heap[a.block]? with
  | some (.cells c _ _) => if a.spot.isSome then none else if a.off + n ≤ c.size then some (c.extract a.off (a.off + n)) else none
  | _ => none

def stuckOp (P : Program) (f : Operand → Value) (o : Oper) (w : World) : Result Next := (execOp f o).run P w

/-- A type whose values are rows of n cells. -/
def RowTy (P : Program) (ty : TypeId) (n : Nat) : Prop :=
  (∃ d, P.underlying ty = some d ∧ (match d with | .struct _ | .array _ _ => true | _ => false) = true) ∧ (P.info? ty).map (·.size) = some n

theorem cellsAt_cell {w : World} {a : Addr} {n : Nat} {cs : Array Value} (h : cellsAt w a n = some cs) : cs.size = n ∧ ∀ j v, cs[j]? = some v → w.cell? (a.add j) = some v := by
  unfold cellsAt at h
  split at h
  · rename_i c e f hb
    split at h
    · cases h
    · rename_i hs
      split at h
      · rename_i hle
        cases h
        refine ⟨by simp; omega, fun j v hv => ?_⟩
        have hj : j < n := by
          have := (Array.getElem?_eq_some_iff.1 hv).1
          simp at this; omega
        have hspot : a.spot = none := by cases h : a.spot <;> simp_all
        have ha : a.add j = ⟨a.block, a.off + j, none⟩ := by
          unfold Addr.add
          split
          · rename_i h0; subst h0; cases a; simp_all
          · cases a; simp_all
        rw [ha]
        simp only [World.cell?, hb]
        rw [Array.getElem?_extract] at hv
        have hv2 := (by simpa using hv : j < min (a.off + n) c.size - a.off ∧ c[a.off + j]? = some v)
        simpa using hv2.2
      · cases h
  · cases h

theorem run_isAgg_row {P : Program} {ty : TypeId} {n : Nat} (h : RowTy P ty n) (w : World) : (isAgg ty).run P w = .ok true w := by
  obtain ⟨⟨d, hu, hd⟩, hi⟩ := h
  unfold isAgg
  rw [Sem.run_bind, run_underlying hu w]
  cases d <;> simp_all

theorem run_sizeOf_row {P : Program} {ty : TypeId} {n : Nat} (h : RowTy P ty n) (w : World) : (sizeOf ty).run P w = .ok n w := by
  obtain ⟨_, hi⟩ := h
  cases hq : P.info? ty with
  | none => simp [hq] at hi
  | some i => simp [hq] at hi; simp [sizeOf, typeInfo, hq, hi]

theorem run_loadVar_cells {P : Program} (w : World) (a : Addr) (ty : TypeId) (n : Nat) (hr : RowTy P ty n) {cs : Array Value} (h : cellsAt w a n = some cs) : (loadVar ty a).run P w = .ok (.agg cs) w := by
  obtain ⟨hn, hc⟩ := cellsAt_cell h
  have hl := run_loadCells_list (P := P) w a cs.toList (fun j v hv => hc j v (by simpa using hv))
  simp only [loadVar, Sem.run_bind, run_isAgg_row hr, Result.andThen_ok, if_true, run_sizeOf_row hr]
  have : (loadCells a n).run P w = .ok cs w := by rw [← hn]; simpa using hl
  simp [this]

theorem op_load {P : Program} (ty : TypeId) (n : Nat) (hr : RowTy P ty n) (f : Operand → Value) (x : Operand) (d : Option Tmp) (t : TypeId) (pos : String) (af : Array Edge) (g : Option (Nat × Bool)) (w : World) :
    (execOp f ⟨d, .load ty x, t, pos, af, g⟩).run P w = match f x with
      | .pointer (some a) => match cellsAt w a n with
        | some cs => .ok (.value (.agg cs)) w
        | none => stuckOp P f ⟨d, .load ty x, t, pos, af, g⟩ w
      | _ => stuckOp P f ⟨d, .load ty x, t, pos, af, g⟩ w := by
  split
  · rename_i a hx
    split
    · rename_i cs hcs
      simp [execOp, hx, Instr.loadAt, Instr.sureAddr, run_loadVar_cells w a ty n hr hcs]
    · rfl
  · rfl

def spliceL (c : Array Value) (o : Nat) : List Value → Array Value
  | [] => c
  | v :: vs => spliceL (c.setIfInBounds o v) (o + 1) vs
def splice (c : Array Value) (o : Nat) (cs : Array Value) : Array Value := spliceL c o cs.toList

theorem size_spliceL : ∀ (vs : List Value) (c : Array Value) (o : Nat), (spliceL c o vs).size = c.size
  | [], _, _ => rfl
  | v :: vs, c, o => by simp [spliceL, size_spliceL vs]
theorem get_spliceL : ∀ (vs : List Value) (c : Array Value) (o j : Nat), o + vs.length ≤ c.size → (spliceL c o vs)[j]? = if o ≤ j ∧ j < o + vs.length then vs[j - o]? else c[j]?
  | [], c, o, j, _ => by simp [spliceL]; omega
  | v :: vs, c, o, j, h => by
    simp only [List.length_cons] at h
    rw [spliceL, get_spliceL vs _ _ _ (by simp; omega)]
    by_cases h1 : o + 1 ≤ j ∧ j < o + 1 + vs.length
    · rw [if_pos h1, if_pos (by simp; omega)]
      obtain ⟨m, hm⟩ : ∃ m, j - o = m + 1 := ⟨j - o - 1, by omega⟩
      rw [hm, List.getElem?_cons_succ]
      congr 1; omega
    · rw [if_neg h1]
      by_cases h2 : j = o
      · subst h2
        rw [if_pos (by simp)]
        have hlt : j < c.size := by omega
        simp [hlt]
      · rw [if_neg (by simp; omega), Array.getElem?_setIfInBounds_ne (by omega)]
theorem size_splice (c : Array Value) (o : Nat) (cs : Array Value) : (splice c o cs).size = c.size := size_spliceL _ _ _
theorem get_splice (c : Array Value) (o : Nat) (cs : Array Value) (j : Nat) (h : o + cs.size ≤ c.size) : (splice c o cs)[j]? = if o ≤ j ∧ j < o + cs.size then cs[j - o]? else c[j]? := by
  have := get_spliceL cs.toList c o j (by simpa using h)
  simpa [splice] using this
theorem splice_whole (c cs : Array Value) (h : c.size = cs.size) : splice c 0 cs = cs := by
  apply Array.ext_getElem?
  intro j
  rw [get_splice _ _ _ _ (by omega)]
  by_cases hj : j < cs.size
  · simp [hj]
  · rw [if_neg (by omega)]; simp [Nat.le_of_not_lt hj, h]

/-- Cells that are written in a row. -/
def putCells (w : World) (a : Addr) (cs : Array Value) : World :=
  { w with heap := w.heap.modify a.block fun
      | .cells c e f => .cells (splice c a.off cs) e f
      | o => o }
/-- n cells from an address on may be written. -/
def cellsFree (w : World) (a : Addr) (n : Nat) : Bool :=
  match w.heap[a.block]? with
  | some (.cells c _ f) => a.spot.isNone && decide (a.off + n ≤ c.size) && decide (f = (0, 0))
  | _ => false
def one1 : Value → Bool
  | .agg _ | .tuple _ => false
  | _ => true
def allOne (cs : Array Value) : Bool := cs.toList.all one1

theorem world_heap_ext {w w' : World} (h : w.heap = w'.heap) (h1 : w.tape = w'.tape) (h2 : w.drawn = w'.drawn) (h3 : w.os = w'.os) (h4 : w.output = w'.output) : w = w' := by
  cases w; cases w'; simp_all

theorem run_storeCells_put {P : Program} (b : Nat) (e : TypeId) : ∀ (vs : List Value) (i off : Nat) (w : World) (c : Array Value), w.heap[b]? = some (.cells c e (0, 0)) → off + i + vs.length ≤ c.size → vs.all one1 = true →
    (storeCells ⟨b, off, none⟩ vs i).run P w = .ok () { w with heap := w.heap.modify b fun _ => .cells (spliceL c (off + i) vs) e (0, 0) }
  | [], i, off, w, c, hh, hl, h1 => by
    simp only [storeCells, Sem.run_pure, spliceL]
    congr 1
    refine world_heap_ext ?_ rfl rfl rfl rfl
    apply Array.ext_getElem?
    intro k
    simp only [Array.getElem?_modify]
    by_cases hk : b = k
    · subst hk
      simp [hh]
    · simp [hk]
  | v :: vs, i, off, w, c, hh, hl, h1 => by
    simp only [List.all_cons, Bool.and_eq_true, List.length_cons] at h1 hl
    have hadd : (⟨b, off, none⟩ : Addr).add i = ⟨b, off + i, none⟩ := by unfold Addr.add; split <;> simp_all
    have hst : (store (⟨b, off + i, none⟩ : Addr) v).run P w = .ok () (w.setCell ⟨b, off + i, none⟩ v) := by
      have hc := cell_of hh (off + i)
      have hlt : off + i < c.size := by omega
      rw [Array.getElem?_eq_getElem hlt] at hc
      have hf := free_of hh (off + i)
      have h2 := h1.1
      cases v <;> simp_all [store, Sem.run, one1]
    have hw : (w.setCell ⟨b, off + i, none⟩ v).heap[b]? = some (.cells (c.setIfInBounds (off + i) v) e (0, 0)) := heap_set hh (off + i) v
    simp only [storeCells, Sem.run_bind, hadd, hst, Result.andThen_ok]
    rw [run_storeCells_put b e vs (i + 1) off _ _ hw (by simp; omega) h1.2]
    congr 1
    refine world_heap_ext ?_ rfl rfl rfl rfl
    apply Array.ext_getElem?
    intro k
    simp only [World.setCell, Array.getElem?_modify]
    by_cases hk : b = k
    · subst hk
      simp [hh, spliceL, Nat.add_assoc]
    · simp [hk]

theorem run_storeVar_put {P : Program} (w : World) (a : Addr) (ty : TypeId) (n : Nat) (hr : RowTy P ty n) (cs : Array Value) (hn : cs.size = n) (hf : cellsFree w a n = true) (h1 : allOne cs = true) :
    (storeVar ty a (.agg cs)).run P w = .ok () (putCells w a cs) := by
  unfold cellsFree at hf
  split at hf
  · rename_i c e f hb
    simp only [Bool.and_eq_true, decide_eq_true_eq] at hf
    obtain ⟨⟨hs, hle⟩, hfr⟩ := hf
    subst hfr
    obtain ⟨b, o, sp⟩ := a
    cases sp with
    | some x => simp at hs
    | none =>
      simp only at hb hle
      have hv : (Value.agg cs).cells = cs := rfl
      simp only [storeVar, Sem.run_bind, run_sizeOf_row hr, Result.andThen_ok, hv, hn, ne_eq, not_true, if_false]
      have := run_storeCells_put (P := P) b e cs.toList 0 o w c hb (by simp; omega) h1
      simp only [Nat.add_zero] at this
      simp [this]
      refine world_heap_ext ?_ rfl rfl rfl rfl
      apply Array.ext_getElem?
      intro k
      simp only [putCells, Array.getElem?_modify]
      by_cases hk : b = k
      · subst hk
        simp [hb, splice]
      · simp [hk]
  · cases hf

theorem op_store {P : Program} (ty : TypeId) (n : Nat) (hr : RowTy P ty n) (f : Operand → Value) (p x : Operand) (d : Option Tmp) (t : TypeId) (pos : String) (af : Array Edge) (g : Option (Nat × Bool)) (w : World) :
    (execOp f ⟨d, .store ty p x, t, pos, af, g⟩).run P w = match f p, f x with
      | .pointer (some a), .agg cs => if cs.size = n ∧ cellsFree w a n = true ∧ allOne cs = true then .ok .skip (putCells w a cs) else stuckOp P f ⟨d, .store ty p x, t, pos, af, g⟩ w
      | _, _ => stuckOp P f ⟨d, .store ty p x, t, pos, af, g⟩ w := by
  split
  · rename_i a cs hp hx
    split
    · rename_i h
      simp [execOp, hp, hx, Instr.storeAt, Instr.sureAddr, run_storeVar_put w a ty n hr cs h.1 h.2.1 h.2.2]
    · rfl
  · rfl

theorem op_alloc {P : Program} (ty : TypeId) (i : TypeInfo) (z : Array Value) (hi : P.info? ty = some i) (hz : i.zero = some (.agg z)) (f : Operand → Value) (d : Option Tmp) (t : TypeId) (pos : String) (af : Array Edge) (g : Option (Nat × Bool)) (w : World) :
    (execOp f ⟨d, .alloc ty, t, pos, af, g⟩).run P w = .ok (.value (.pointer (some ⟨w.heap.size, 0, none⟩))) (w.alloc (.cells z ty)) := by
  simp [execOp, Instr.alloc, zeroValue, typeInfo, hi, hz, newVar, newRow, Value.cells, Sem.run, newObj]

theorem cellsAt_row {w : World} {b : Nat} {c : Array Value} {e : TypeId} {f : Nat × Nat} (h : w.heap[b]? = some (.cells c e f)) (o n : Nat) (hn : o + n ≤ c.size) : cellsAt w ⟨b, o, none⟩ n = some (c.extract o (o + n)) := by
  simp [cellsAt, h, hn]
theorem cellsAt_whole {w : World} {b : Nat} {c : Array Value} {e : TypeId} {f : Nat × Nat} (h : w.heap[b]? = some (.cells c e f)) (n : Nat) (hn : n = c.size) : cellsAt w ⟨b, 0, none⟩ n = some c := by
  subst hn
  simp [cellsAt, h]
theorem cellsAt_new (w : World) (c : Array Value) (e : TypeId) (f : Nat × Nat) (o n : Nat) : cellsAt (w.alloc (.cells c e f)) ⟨w.heap.size, o, none⟩ n = if o + n ≤ c.size then some (c.extract o (o + n)) else none := by
  unfold cellsAt
  rw [show (Addr.mk w.heap.size o none).block = w.heap.size from rfl, heap_new]
  simp
theorem cellsAt_old (w : World) (x : Obj) (b o n : Nat) (h : b ≠ w.heap.size) : cellsAt (w.alloc x) ⟨b, o, none⟩ n = cellsAt w ⟨b, o, none⟩ n := by
  have : (w.alloc x).heap[b]? = w.heap[b]? := by
    show (w.heap.push x)[b]? = _
    rw [Array.getElem?_push, if_neg (by omega)]
  simp [cellsAt, this]
theorem cellsAt_drew (w : World) (a : Addr) (n : Nat) : cellsAt w.drew a n = cellsAt w a n := rfl
theorem cellsAt_set (w : World) (b o b' o' n : Nat) (v : Value) (h : b ≠ b') : cellsAt (w.setCell ⟨b', o', none⟩ v) ⟨b, o, none⟩ n = cellsAt w ⟨b, o, none⟩ n := by
  simp [cellsAt, heap_set_ne (w := w) o' v h]

theorem cellsAt_new0 (w : World) (c : Array Value) (e : TypeId) (f : Nat × Nat) (n : Nat) (h : c.size = n) : cellsAt (w.alloc (.cells c e f)) ⟨w.heap.size, 0, none⟩ n = some c :=
  cellsAt_whole (heap_new w _) n h.symm
theorem cellsAt_lt (w : World) (x : Obj) (b o n : Nat) (h : b < w.heap.size) : cellsAt (w.alloc x) ⟨b, o, none⟩ n = cellsAt w ⟨b, o, none⟩ n := cellsAt_old w x b o n (by omega)
theorem size_bytesV (l : List UInt8) : (bytesV l).size = l.length := by simp [bytesV]

theorem foldl_set (l : List (Value × Nat)) : ∀ (base : Array Value) (off i : Nat), (∀ p ∈ l, off + p.2 < base.size) → (l.Pairwise fun p q => p.2 ≠ q.2) →
    (l.foldl (fun cs p => cs.setIfInBounds (off + p.2) p.1) base)[i]? = ((l.find? fun p => off + p.2 == i).map (·.1)).or base[i]? := by
  induction l with
  | nil => intro base off i _ _; simp
  | cons q l ih =>
    intro base off i hb hp
    rw [List.pairwise_cons] at hp
    simp only [List.foldl_cons]
    rw [ih _ _ _ (fun p hp' => by simpa using hb p (List.mem_cons_of_mem _ hp')) hp.2]
    have hq : off + q.2 < base.size := hb q (List.mem_cons_self ..)
    by_cases h : off + q.2 = i
    · subst h
      have hn : (l.find? fun p => off + p.2 == off + q.2) = none := by
        simp only [List.find?_eq_none]
        intro p hp'
        have := hp.1 p hp'
        simp; omega
      simp [hn, hq]
    · have : (off + q.2 == i) = false := by simpa using h
      simp [this, Array.getElem?_setIfInBounds_ne h]

theorem fill_whole (c base : Array Value) (h : base.size = c.size) : c.zipIdx.foldl (fun cs (x, j) => cs.setIfInBounds (0 + j) x) base = c := by
  apply Array.ext_getElem?
  intro i
  have hf := foldl_set c.zipIdx.toList base 0 i (fun p hp => by
      have hp' : p ∈ c.zipIdx := Array.mem_toList_iff.1 hp
      have := Array.mem_zipIdx hp'
      omega) (by
      rw [List.pairwise_iff_getElem]
      intro i j hi hj hij
      simp
      omega)
  rw [← Array.foldl_toList]
  refine hf.trans ?_
  by_cases hi : i < c.size
  · have : c.zipIdx.toList.find? (fun p => 0 + p.2 == i) = some (c[i], i) := by
      rw [List.find?_eq_some_iff_getElem]
      refine ⟨by simp, i, by simpa using hi, by simp, ?_⟩
      intro j hj
      simp
      omega
    rw [this]
    simp [hi]
  · have : c.zipIdx.toList.find? (fun p => 0 + p.2 == i) = none := by
      rw [List.find?_eq_none]
      intro p hp
      have hp' : p ∈ c.zipIdx := Array.mem_toList_iff.1 hp
      have := Array.mem_zipIdx hp'
      simp
      omega
    rw [this]
    simp [h, Nat.le_of_not_lt hi]

theorem fill_one (place : Nat → Option (Nat × Nat)) (cs base : Array Value) (hp : place 0 = some (0, cs.size)) (h : base.size = cs.size) : Instr.fill place base [(0, .agg cs)] = some cs := by
  have hc : (Value.agg cs).cells = cs := rfl
  have hw := fill_whole cs base h
  unfold Instr.fill
  rw [hp]
  simp only [hc, h, Nat.zero_add, Instr.fill] at hw ⊢
  simpa using hw

theorem run_buildSlice_one {P : Program} (w : World) (t e : TypeId) (i : TypeInfo) (z : Value) (size : Nat) (cs : Array Value) (ht : P.underlying t = some (.slice e)) (hi : P.info? e = some i) (hz : i.zero = some z)
    (hsize : i.size = size) (hb : size ≤ 16777216) (h0 : 0 < size) (hcs : cs.size = size) :
    (Instr.buildSlice t 1 #[(0, .agg cs)]).run P w = .ok (.slice (some ⟨w.heap.size, 0, none⟩) 1 1) (w.alloc (.cells cs e)) := by
  subst hcs
  have hb' : ¬ (16777216 < cs.size) := by omega
  have h0' : ¬ (cs.size = 0) := by omega
  unfold Instr.buildSlice
  simp [Sem.run_bind, run_underlying ht, sizeOf, typeInfo, hi, hsize, newRow, zeroValue, hz, hb', h0']
  rw [fill_one _ cs _ (by simp) (by simp)]
  simp [Sem.run, newObj]

theorem op_buildSlice_one {P : Program} (t e : TypeId) (i : TypeInfo) (z : Value) (size : Nat) (ht : P.underlying t = some (.slice e)) (hi : P.info? e = some i) (hz : i.zero = some z)
    (hsize : i.size = size) (hb : size ≤ 16777216) (h0 : 0 < size) (f : Operand → Value) (x : Operand) (d : Option Tmp) (ty : TypeId) (pos : String) (af : Array Edge) (g : Option (Nat × Bool)) (w : World) :
    (execOp f ⟨d, .buildSlice t 1 #[(0, x)], ty, pos, af, g⟩).run P w = match f x with
      | .agg cs => if cs.size = size then .ok (.value (.slice (some ⟨w.heap.size, 0, none⟩) 1 1)) (w.alloc (.cells cs e)) else stuckOp P f ⟨d, .buildSlice t 1 #[(0, x)], ty, pos, af, g⟩ w
      | _ => stuckOp P f ⟨d, .buildSlice t 1 #[(0, x)], ty, pos, af, g⟩ w := by
  split
  · rename_i cs hx
    split
    · rename_i hcs
      have := run_buildSlice_one (P := P) w t e i z size cs ht hi hz hsize hb h0 hcs
      simp [execOp, hx, this]
    · rfl
  · rfl

def reps (n : Nat) (v : Value) : List Value := List.replicate n v

def z_Sector : Array Value := (reps 64 (.int .u8 0)).toArray
theorem row_Sector : RowTy Tryz.prog 103 64 := ⟨⟨_, Tryz.underlying103, rfl⟩, by kernel_rfl⟩
theorem info_Sector : (Tryz.prog.info? 103).map (fun i => (i.zero, i.size, i.bytes)) = some (some (.agg z_Sector), 64, 64) := by kernel_rfl
theorem size_z_Sector : z_Sector.size = 64 := by kernel_rfl
theorem ld_Sector (f : Operand → Value) (x : Operand) (d : Option Tmp) (t : TypeId) (pos : String) (af : Array Edge) (g : Option (Nat × Bool)) (w : World) :
    (execOp f ⟨d, .load 103 x, t, pos, af, g⟩).run Tryz.prog w = match f x with
      | .pointer (some a) => match cellsAt w a 64 with
        | some cs => .ok (.value (.agg cs)) w
        | none => stuckOp Tryz.prog f ⟨d, .load 103 x, t, pos, af, g⟩ w
      | _ => stuckOp Tryz.prog f ⟨d, .load 103 x, t, pos, af, g⟩ w := op_load 103 64 row_Sector f x d t pos af g w
theorem st_Sector (f : Operand → Value) (p x : Operand) (d : Option Tmp) (t : TypeId) (pos : String) (af : Array Edge) (g : Option (Nat × Bool)) (w : World) :
    (execOp f ⟨d, .store 103 p x, t, pos, af, g⟩).run Tryz.prog w = match f p, f x with
      | .pointer (some a), .agg cs => if cs.size = 64 ∧ cellsFree w a 64 = true ∧ allOne cs = true then .ok .skip (putCells w a cs) else stuckOp Tryz.prog f ⟨d, .store 103 p x, t, pos, af, g⟩ w
      | _, _ => stuckOp Tryz.prog f ⟨d, .store 103 p x, t, pos, af, g⟩ w := op_store 103 64 row_Sector f p x d t pos af g w
theorem al_Sector (f : Operand → Value) (d : Option Tmp) (t : TypeId) (pos : String) (af : Array Edge) (g : Option (Nat × Bool)) (w : World) :
    (execOp f ⟨d, .alloc 103, t, pos, af, g⟩).run Tryz.prog w = .ok (.value (.pointer (some ⟨w.heap.size, 0, none⟩))) (w.alloc (.cells z_Sector 103)) := by
  obtain ⟨i0, hi, hz0, hz1, hz2⟩ := info_parts info_Sector
  exact op_alloc 103 i0 z_Sector hi hz0 f d t pos af g w

theorem bs_Sector (f : Operand → Value) (x : Operand) (d : Option Tmp) (ty : TypeId) (pos : String) (af : Array Edge) (g : Option (Nat × Bool)) (w : World) :
    (execOp f ⟨d, .buildSlice 129 1 #[(0, x)], ty, pos, af, g⟩).run Tryz.prog w = match f x with
      | .agg cs => if cs.size = 64 then .ok (.value (.slice (some ⟨w.heap.size, 0, none⟩) 1 1)) (w.alloc (.cells cs 103)) else stuckOp Tryz.prog f ⟨d, .buildSlice 129 1 #[(0, x)], ty, pos, af, g⟩ w
      | _ => stuckOp Tryz.prog f ⟨d, .buildSlice 129 1 #[(0, x)], ty, pos, af, g⟩ w := by
  obtain ⟨i0, hi, hz0, hz1, hz2⟩ := info_parts info_Sector
  exact op_buildSlice_one _ _ i0 _ 64 Tryz.underlying129 hi hz0 hz1 (by decide) (by decide) f x d ty pos af g w

def z_Block : Array Value := (reps 32 (.int .u8 0)).toArray
theorem row_Block : RowTy Tryz.prog 87 32 := ⟨⟨_, Tryz.underlying87, rfl⟩, by kernel_rfl⟩
theorem info_Block : (Tryz.prog.info? 87).map (fun i => (i.zero, i.size, i.bytes)) = some (some (.agg z_Block), 32, 32) := by kernel_rfl
theorem size_z_Block : z_Block.size = 32 := by kernel_rfl
theorem ld_Block (f : Operand → Value) (x : Operand) (d : Option Tmp) (t : TypeId) (pos : String) (af : Array Edge) (g : Option (Nat × Bool)) (w : World) :
    (execOp f ⟨d, .load 87 x, t, pos, af, g⟩).run Tryz.prog w = match f x with
      | .pointer (some a) => match cellsAt w a 32 with
        | some cs => .ok (.value (.agg cs)) w
        | none => stuckOp Tryz.prog f ⟨d, .load 87 x, t, pos, af, g⟩ w
      | _ => stuckOp Tryz.prog f ⟨d, .load 87 x, t, pos, af, g⟩ w := op_load 87 32 row_Block f x d t pos af g w
theorem st_Block (f : Operand → Value) (p x : Operand) (d : Option Tmp) (t : TypeId) (pos : String) (af : Array Edge) (g : Option (Nat × Bool)) (w : World) :
    (execOp f ⟨d, .store 87 p x, t, pos, af, g⟩).run Tryz.prog w = match f p, f x with
      | .pointer (some a), .agg cs => if cs.size = 32 ∧ cellsFree w a 32 = true ∧ allOne cs = true then .ok .skip (putCells w a cs) else stuckOp Tryz.prog f ⟨d, .store 87 p x, t, pos, af, g⟩ w
      | _, _ => stuckOp Tryz.prog f ⟨d, .store 87 p x, t, pos, af, g⟩ w := op_store 87 32 row_Block f p x d t pos af g w
theorem al_Block (f : Operand → Value) (d : Option Tmp) (t : TypeId) (pos : String) (af : Array Edge) (g : Option (Nat × Bool)) (w : World) :
    (execOp f ⟨d, .alloc 87, t, pos, af, g⟩).run Tryz.prog w = .ok (.value (.pointer (some ⟨w.heap.size, 0, none⟩))) (w.alloc (.cells z_Block 87)) := by
  obtain ⟨i0, hi, hz0, hz1, hz2⟩ := info_parts info_Block
  exact op_alloc 87 i0 z_Block hi hz0 f d t pos af g w

def z_Body : Array Value := (reps 44 (.int .u8 0)).toArray
theorem row_Body : RowTy Tryz.prog 118 44 := ⟨⟨_, Tryz.underlying118, rfl⟩, by kernel_rfl⟩
theorem info_Body : (Tryz.prog.info? 118).map (fun i => (i.zero, i.size, i.bytes)) = some (some (.agg z_Body), 44, 44) := by kernel_rfl
theorem size_z_Body : z_Body.size = 44 := by kernel_rfl
theorem ld_Body (f : Operand → Value) (x : Operand) (d : Option Tmp) (t : TypeId) (pos : String) (af : Array Edge) (g : Option (Nat × Bool)) (w : World) :
    (execOp f ⟨d, .load 118 x, t, pos, af, g⟩).run Tryz.prog w = match f x with
      | .pointer (some a) => match cellsAt w a 44 with
        | some cs => .ok (.value (.agg cs)) w
        | none => stuckOp Tryz.prog f ⟨d, .load 118 x, t, pos, af, g⟩ w
      | _ => stuckOp Tryz.prog f ⟨d, .load 118 x, t, pos, af, g⟩ w := op_load 118 44 row_Body f x d t pos af g w
theorem st_Body (f : Operand → Value) (p x : Operand) (d : Option Tmp) (t : TypeId) (pos : String) (af : Array Edge) (g : Option (Nat × Bool)) (w : World) :
    (execOp f ⟨d, .store 118 p x, t, pos, af, g⟩).run Tryz.prog w = match f p, f x with
      | .pointer (some a), .agg cs => if cs.size = 44 ∧ cellsFree w a 44 = true ∧ allOne cs = true then .ok .skip (putCells w a cs) else stuckOp Tryz.prog f ⟨d, .store 118 p x, t, pos, af, g⟩ w
      | _, _ => stuckOp Tryz.prog f ⟨d, .store 118 p x, t, pos, af, g⟩ w := op_store 118 44 row_Body f p x d t pos af g w
theorem al_Body (f : Operand → Value) (d : Option Tmp) (t : TypeId) (pos : String) (af : Array Edge) (g : Option (Nat × Bool)) (w : World) :
    (execOp f ⟨d, .alloc 118, t, pos, af, g⟩).run Tryz.prog w = .ok (.value (.pointer (some ⟨w.heap.size, 0, none⟩))) (w.alloc (.cells z_Body 118)) := by
  obtain ⟨i0, hi, hz0, hz1, hz2⟩ := info_parts info_Body
  exact op_alloc 118 i0 z_Body hi hz0 f d t pos af g w

def z_Table : Array Value := (reps 256 (.int .u32 0)).toArray
theorem row_Table : RowTy Tryz.prog 72 256 := ⟨⟨_, Tryz.underlying72, rfl⟩, by kernel_rfl⟩
theorem info_Table : (Tryz.prog.info? 72).map (fun i => (i.zero, i.size, i.bytes)) = some (some (.agg z_Table), 256, 1024) := by kernel_rfl
theorem size_z_Table : z_Table.size = 256 := by kernel_rfl
theorem ld_Table (f : Operand → Value) (x : Operand) (d : Option Tmp) (t : TypeId) (pos : String) (af : Array Edge) (g : Option (Nat × Bool)) (w : World) :
    (execOp f ⟨d, .load 72 x, t, pos, af, g⟩).run Tryz.prog w = match f x with
      | .pointer (some a) => match cellsAt w a 256 with
        | some cs => .ok (.value (.agg cs)) w
        | none => stuckOp Tryz.prog f ⟨d, .load 72 x, t, pos, af, g⟩ w
      | _ => stuckOp Tryz.prog f ⟨d, .load 72 x, t, pos, af, g⟩ w := op_load 72 256 row_Table f x d t pos af g w
theorem st_Table (f : Operand → Value) (p x : Operand) (d : Option Tmp) (t : TypeId) (pos : String) (af : Array Edge) (g : Option (Nat × Bool)) (w : World) :
    (execOp f ⟨d, .store 72 p x, t, pos, af, g⟩).run Tryz.prog w = match f p, f x with
      | .pointer (some a), .agg cs => if cs.size = 256 ∧ cellsFree w a 256 = true ∧ allOne cs = true then .ok .skip (putCells w a cs) else stuckOp Tryz.prog f ⟨d, .store 72 p x, t, pos, af, g⟩ w
      | _, _ => stuckOp Tryz.prog f ⟨d, .store 72 p x, t, pos, af, g⟩ w := op_store 72 256 row_Table f p x d t pos af g w
theorem al_Table (f : Operand → Value) (d : Option Tmp) (t : TypeId) (pos : String) (af : Array Edge) (g : Option (Nat × Bool)) (w : World) :
    (execOp f ⟨d, .alloc 72, t, pos, af, g⟩).run Tryz.prog w = .ok (.value (.pointer (some ⟨w.heap.size, 0, none⟩))) (w.alloc (.cells z_Table 72)) := by
  obtain ⟨i0, hi, hz0, hz1, hz2⟩ := info_parts info_Table
  exact op_alloc 72 i0 z_Table hi hz0 f d t pos af g w

def z_Frame : Array Value := (reps 5 (.int .i64 0) ++ reps 44 (.int .u8 0)).toArray
theorem row_Frame : RowTy Tryz.prog 120 49 := ⟨⟨_, Tryz.underlying120, rfl⟩, by kernel_rfl⟩
theorem info_Frame : (Tryz.prog.info? 120).map (fun i => (i.zero, i.size, i.bytes)) = some (some (.agg z_Frame), 49, 88) := by kernel_rfl
theorem size_z_Frame : z_Frame.size = 49 := by kernel_rfl
theorem ld_Frame (f : Operand → Value) (x : Operand) (d : Option Tmp) (t : TypeId) (pos : String) (af : Array Edge) (g : Option (Nat × Bool)) (w : World) :
    (execOp f ⟨d, .load 120 x, t, pos, af, g⟩).run Tryz.prog w = match f x with
      | .pointer (some a) => match cellsAt w a 49 with
        | some cs => .ok (.value (.agg cs)) w
        | none => stuckOp Tryz.prog f ⟨d, .load 120 x, t, pos, af, g⟩ w
      | _ => stuckOp Tryz.prog f ⟨d, .load 120 x, t, pos, af, g⟩ w := op_load 120 49 row_Frame f x d t pos af g w
theorem st_Frame (f : Operand → Value) (p x : Operand) (d : Option Tmp) (t : TypeId) (pos : String) (af : Array Edge) (g : Option (Nat × Bool)) (w : World) :
    (execOp f ⟨d, .store 120 p x, t, pos, af, g⟩).run Tryz.prog w = match f p, f x with
      | .pointer (some a), .agg cs => if cs.size = 49 ∧ cellsFree w a 49 = true ∧ allOne cs = true then .ok .skip (putCells w a cs) else stuckOp Tryz.prog f ⟨d, .store 120 p x, t, pos, af, g⟩ w
      | _, _ => stuckOp Tryz.prog f ⟨d, .store 120 p x, t, pos, af, g⟩ w := op_store 120 49 row_Frame f p x d t pos af g w
theorem al_Frame (f : Operand → Value) (d : Option Tmp) (t : TypeId) (pos : String) (af : Array Edge) (g : Option (Nat × Bool)) (w : World) :
    (execOp f ⟨d, .alloc 120, t, pos, af, g⟩).run Tryz.prog w = .ok (.value (.pointer (some ⟨w.heap.size, 0, none⟩))) (w.alloc (.cells z_Frame 120)) := by
  obtain ⟨i0, hi, hz0, hz1, hz2⟩ := info_parts info_Frame
  exact op_alloc 120 i0 z_Frame hi hz0 f d t pos af g w

theorem bs_Frame (f : Operand → Value) (x : Operand) (d : Option Tmp) (ty : TypeId) (pos : String) (af : Array Edge) (g : Option (Nat × Bool)) (w : World) :
    (execOp f ⟨d, .buildSlice 208 1 #[(0, x)], ty, pos, af, g⟩).run Tryz.prog w = match f x with
      | .agg cs => if cs.size = 49 then .ok (.value (.slice (some ⟨w.heap.size, 0, none⟩) 1 1)) (w.alloc (.cells cs 120)) else stuckOp Tryz.prog f ⟨d, .buildSlice 208 1 #[(0, x)], ty, pos, af, g⟩ w
      | _ => stuckOp Tryz.prog f ⟨d, .buildSlice 208 1 #[(0, x)], ty, pos, af, g⟩ w := by
  obtain ⟨i0, hi, hz0, hz1, hz2⟩ := info_parts info_Frame
  exact op_buildSlice_one _ _ i0 _ 49 Tryz.underlying208 hi hz0 hz1 (by decide) (by decide) f x d ty pos af g w

def z_Entry : Array Value := (reps 6 (.int .i64 0) ++ reps 32 (.int .u8 0)).toArray
theorem row_Entry : RowTy Tryz.prog 89 38 := ⟨⟨_, Tryz.underlying89, rfl⟩, by kernel_rfl⟩
theorem info_Entry : (Tryz.prog.info? 89).map (fun i => (i.zero, i.size, i.bytes)) = some (some (.agg z_Entry), 38, 80) := by kernel_rfl
theorem size_z_Entry : z_Entry.size = 38 := by kernel_rfl
theorem ld_Entry (f : Operand → Value) (x : Operand) (d : Option Tmp) (t : TypeId) (pos : String) (af : Array Edge) (g : Option (Nat × Bool)) (w : World) :
    (execOp f ⟨d, .load 89 x, t, pos, af, g⟩).run Tryz.prog w = match f x with
      | .pointer (some a) => match cellsAt w a 38 with
        | some cs => .ok (.value (.agg cs)) w
        | none => stuckOp Tryz.prog f ⟨d, .load 89 x, t, pos, af, g⟩ w
      | _ => stuckOp Tryz.prog f ⟨d, .load 89 x, t, pos, af, g⟩ w := op_load 89 38 row_Entry f x d t pos af g w
theorem st_Entry (f : Operand → Value) (p x : Operand) (d : Option Tmp) (t : TypeId) (pos : String) (af : Array Edge) (g : Option (Nat × Bool)) (w : World) :
    (execOp f ⟨d, .store 89 p x, t, pos, af, g⟩).run Tryz.prog w = match f p, f x with
      | .pointer (some a), .agg cs => if cs.size = 38 ∧ cellsFree w a 38 = true ∧ allOne cs = true then .ok .skip (putCells w a cs) else stuckOp Tryz.prog f ⟨d, .store 89 p x, t, pos, af, g⟩ w
      | _, _ => stuckOp Tryz.prog f ⟨d, .store 89 p x, t, pos, af, g⟩ w := op_store 89 38 row_Entry f p x d t pos af g w
theorem al_Entry (f : Operand → Value) (d : Option Tmp) (t : TypeId) (pos : String) (af : Array Edge) (g : Option (Nat × Bool)) (w : World) :
    (execOp f ⟨d, .alloc 89, t, pos, af, g⟩).run Tryz.prog w = .ok (.value (.pointer (some ⟨w.heap.size, 0, none⟩))) (w.alloc (.cells z_Entry 89)) := by
  obtain ⟨i0, hi, hz0, hz1, hz2⟩ := info_parts info_Entry
  exact op_alloc 89 i0 z_Entry hi hz0 f d t pos af g w

def z_Event : Array Value := (reps 4 (.int .i64 0) ++ reps 64 (.int .u8 0)).toArray
theorem row_Event : RowTy Tryz.prog 105 68 := ⟨⟨_, Tryz.underlying105, rfl⟩, by kernel_rfl⟩
theorem info_Event : (Tryz.prog.info? 105).map (fun i => (i.zero, i.size, i.bytes)) = some (some (.agg z_Event), 68, 96) := by kernel_rfl
theorem size_z_Event : z_Event.size = 68 := by kernel_rfl
theorem ld_Event (f : Operand → Value) (x : Operand) (d : Option Tmp) (t : TypeId) (pos : String) (af : Array Edge) (g : Option (Nat × Bool)) (w : World) :
    (execOp f ⟨d, .load 105 x, t, pos, af, g⟩).run Tryz.prog w = match f x with
      | .pointer (some a) => match cellsAt w a 68 with
        | some cs => .ok (.value (.agg cs)) w
        | none => stuckOp Tryz.prog f ⟨d, .load 105 x, t, pos, af, g⟩ w
      | _ => stuckOp Tryz.prog f ⟨d, .load 105 x, t, pos, af, g⟩ w := op_load 105 68 row_Event f x d t pos af g w
theorem st_Event (f : Operand → Value) (p x : Operand) (d : Option Tmp) (t : TypeId) (pos : String) (af : Array Edge) (g : Option (Nat × Bool)) (w : World) :
    (execOp f ⟨d, .store 105 p x, t, pos, af, g⟩).run Tryz.prog w = match f p, f x with
      | .pointer (some a), .agg cs => if cs.size = 68 ∧ cellsFree w a 68 = true ∧ allOne cs = true then .ok .skip (putCells w a cs) else stuckOp Tryz.prog f ⟨d, .store 105 p x, t, pos, af, g⟩ w
      | _, _ => stuckOp Tryz.prog f ⟨d, .store 105 p x, t, pos, af, g⟩ w := op_store 105 68 row_Event f p x d t pos af g w
theorem al_Event (f : Operand → Value) (d : Option Tmp) (t : TypeId) (pos : String) (af : Array Edge) (g : Option (Nat × Bool)) (w : World) :
    (execOp f ⟨d, .alloc 105, t, pos, af, g⟩).run Tryz.prog w = .ok (.value (.pointer (some ⟨w.heap.size, 0, none⟩))) (w.alloc (.cells z_Event 105)) := by
  obtain ⟨i0, hi, hz0, hz1, hz2⟩ := info_parts info_Event
  exact op_alloc 105 i0 z_Event hi hz0 f d t pos af g w

theorem bs_Event (f : Operand → Value) (x : Operand) (d : Option Tmp) (ty : TypeId) (pos : String) (af : Array Edge) (g : Option (Nat × Bool)) (w : World) :
    (execOp f ⟨d, .buildSlice 101 1 #[(0, x)], ty, pos, af, g⟩).run Tryz.prog w = match f x with
      | .agg cs => if cs.size = 68 then .ok (.value (.slice (some ⟨w.heap.size, 0, none⟩) 1 1)) (w.alloc (.cells cs 105)) else stuckOp Tryz.prog f ⟨d, .buildSlice 101 1 #[(0, x)], ty, pos, af, g⟩ w
      | _ => stuckOp Tryz.prog f ⟨d, .buildSlice 101 1 #[(0, x)], ty, pos, af, g⟩ w := by
  obtain ⟨i0, hi, hz0, hz1, hz2⟩ := info_parts info_Event
  exact op_buildSlice_one _ _ i0 _ 68 Tryz.underlying101 hi hz0 hz1 (by decide) (by decide) f x d ty pos af g w

def z_Mark : Array Value := (reps 64 (.int .u8 0) ++ reps 1 (.int .i64 0)).toArray
theorem row_Mark : RowTy Tryz.prog 320 65 := ⟨⟨_, Tryz.underlying320, rfl⟩, by kernel_rfl⟩
theorem info_Mark : (Tryz.prog.info? 320).map (fun i => (i.zero, i.size, i.bytes)) = some (some (.agg z_Mark), 65, 72) := by kernel_rfl
theorem size_z_Mark : z_Mark.size = 65 := by kernel_rfl
theorem ld_Mark (f : Operand → Value) (x : Operand) (d : Option Tmp) (t : TypeId) (pos : String) (af : Array Edge) (g : Option (Nat × Bool)) (w : World) :
    (execOp f ⟨d, .load 320 x, t, pos, af, g⟩).run Tryz.prog w = match f x with
      | .pointer (some a) => match cellsAt w a 65 with
        | some cs => .ok (.value (.agg cs)) w
        | none => stuckOp Tryz.prog f ⟨d, .load 320 x, t, pos, af, g⟩ w
      | _ => stuckOp Tryz.prog f ⟨d, .load 320 x, t, pos, af, g⟩ w := op_load 320 65 row_Mark f x d t pos af g w
theorem st_Mark (f : Operand → Value) (p x : Operand) (d : Option Tmp) (t : TypeId) (pos : String) (af : Array Edge) (g : Option (Nat × Bool)) (w : World) :
    (execOp f ⟨d, .store 320 p x, t, pos, af, g⟩).run Tryz.prog w = match f p, f x with
      | .pointer (some a), .agg cs => if cs.size = 65 ∧ cellsFree w a 65 = true ∧ allOne cs = true then .ok .skip (putCells w a cs) else stuckOp Tryz.prog f ⟨d, .store 320 p x, t, pos, af, g⟩ w
      | _, _ => stuckOp Tryz.prog f ⟨d, .store 320 p x, t, pos, af, g⟩ w := op_store 320 65 row_Mark f p x d t pos af g w
theorem al_Mark (f : Operand → Value) (d : Option Tmp) (t : TypeId) (pos : String) (af : Array Edge) (g : Option (Nat × Bool)) (w : World) :
    (execOp f ⟨d, .alloc 320, t, pos, af, g⟩).run Tryz.prog w = .ok (.value (.pointer (some ⟨w.heap.size, 0, none⟩))) (w.alloc (.cells z_Mark 320)) := by
  obtain ⟨i0, hi, hz0, hz1, hz2⟩ := info_parts info_Mark
  exact op_alloc 320 i0 z_Mark hi hz0 f d t pos af g w

end Go.Rv
