/- Queues: list, All. -/
import Derived.Test.YtoijkpgcaokhlaaGreatPart05
import Derived.OwnWalk
import Derived.LoopTactic
import Derived.LoopN
import Derived.Shelf.Abstract
set_option linter.unusedVariables false
set_option linter.unusedSimpArgs false
namespace Go.Rv
open Go Go.RowKit Go.Proofs Go.Conc

theorem infoInt : (Tryz.prog.info? 3).map (fun i => (i.zero, i.size, i.bytes)) = some (some (.int .i64 0), 1, 8) := by kernel_rfl

structure ListInv (own : Nat → Nat) (t qb cap : Nat) (l : List Int) (cb s r : Nat) (w : World) (gk : Nat) (v i : Value) (wr : World) : Prop where
  ex : ∃ k, k + gk = l.length ∧ i = .int .i64 (k : Int) ∧ wr.ownsRow w.heap.size 3 1 v k ((l.map intV).take k) ∧ Keeps (fun b => b = cb) w wr ∧ QAt wr own t qb cap (l.drop k) cb s (r + k)

structure ListInv2 (own : Nat → Nat) (t qb cap : Nat) (l : List Int) (cb s r : Nat) (w w1 : World) (gk : Nat) (i : Value) (wr : World) : Prop where
  ex : ∃ j, j + gk = l.length ∧ i = .int .i64 (j : Int) ∧ Keeps (fun b => b = cb) w1 wr ∧ QAt wr own t qb cap (l.take j) cb (s + j) (r + l.length)

set_option maxHeartbeats 1000000 in
set_option maxRecDepth 100000 in
theorem list_calls (own : Nat → Nat) (t qb cap : Nat) (l : List Int) (cb s r : Nat) (w : World) (h : QAt w own t qb cap l cb s r) (hl : l.length ≤ cap) (hcap : cap ≤ 4096) :
    Calls Tryz.prog 191 #[.pointer (some ⟨qb, 0, none⟩)] w fun e w' => ∃ v, e = .returned v ∧
      w'.ownsRow w.heap.size 3 1 v l.length (l.map intV) ∧ Keeps (fun k => k = cb) w w' ∧ QAt w' own t qb cap l cb (s + l.length) (r + l.length) := by
  have H := hid h
  have hcw := lt_of h.chan
  have hqw := lt_of h.heap
  have HM := hid (And.intro h.mine h.minec)
  clear h
  obtain ⟨i0, hi, hz0, hz1, hz2⟩ := info_parts infoInt
  go_enter Tryz.func191, Tryz.ntmps191
  go_wp2_with fail
  refine Calls.mono (Len_calls own t qb cap l cb s r _ H.out) ?_
  rintro e w' ⟨rfl, rfl⟩
  go_wp2_with fail
  go_loopg [3, 10] l.length (ListInv own t qb cap l cb s r w)
  case atStart => exact ⟨0, by omega, rfl, ⟨by simp, .inl ⟨rfl, rfl⟩⟩, Keeps.refl _ _, by simpa using H.out⟩
  case round =>
    obtain ⟨k, hk, rfl, hown, hkp, hq⟩ := hrel
    have hks := hkp.size
    by_cases hlt : k < l.length
    · have hd : l.drop k = l[k] :: l.drop (k + 1) := List.drop_eq_getElem_cons hlt
      rw [hd] at hq
      have HQ := hid hq
      have HOWN := hid hown
      have HKP := hid hkp
      have hlt' : decide (k < l.length) = true := by simpa using hlt
      clear hq hown hkp hd
      go_wp2_with fail
      refine Calls.mono (Take_calls own t qb cap l[k] (l.drop (k + 1)) cb s (r + k) _ HQ.out) ?_
      rintro e w1 ⟨rfl, hq1, hk1, hs1⟩
      have HQ1 := hid hq1
      have HK1 := hid hk1
      have HS1 := hid hs1
      clear hq1 hk1 hs1
      go_wp2_with (at_builtin; refine wpList_append_own _ rfl (.tmp 19) (.tmp 21) 38 rfl w.heap.size 3 i0 (.int .i64 0) 1 8 Tryz.underlying38 hi hz0 hz1 hz2 rfl (by decide) u3 k ((l.map intV).take k) rfl ?own ⟨w1.heap.size, 0, none⟩ 1 1 [.int .i64 l[k]] rfl rfl ?c1 ?c2 ?c3 ?c4 ?c5 ?go)
      case own =>
        refine ownsRow_keeps HOWN.out (M := fun b => b = cb) (HK1.out.alloc _) fun g _ h1 _ h2 => by omega
      case c1 => intro j u hj; match j, hj with | 0, hj => simp at hj; subst hj; simp [Addr.add]
      case c2 => intro u hu; simp at hu; subst hu; rfl
      case c3 => unfold maxLen; omega
      case c4 => omega
      case c5 => have := HS1.out; simp; omega
      case go =>
        intro v' w2 hown2 hgrow _
        have HO2 := hid hown2
        have HG2 := hid hgrow
        clear hown2 hgrow
        go_wp2
        go_roundg (gk - 1)
        case measure => omega
        case rel =>
          have hkp' : Keeps (fun b => b = cb) w w1 := HKP.out.trans HK1.out
          refine ⟨k + 1, by omega, by go_num, ?_, ?_, ?_⟩
          · have := HO2.out
            rw [show (l.map intV).take (k + 1) = (l.map intV).take k ++ [intV l[k]] by rw [List.take_succ_eq_append_getElem (by simpa using hlt)]; simp]
            exact this
          · exact (hkp'.alloc _).grown HG2.out fun g hg h1 => by have := ownsRow_block HOWN.out hg; omega
          · have hg : Keeps (fun b => u3.ownBlock = some b) w1 w2 := ((Keeps.refl _ _).alloc _).grown HG2.out fun g hg _ => hg
            have hb : ∀ b, b < w.heap.size → ¬ u3.ownBlock = some b := fun b hb e => by have := ownsRow_block HOWN.out e; omega
            exact HQ1.out.keeps hg (hb _ hqw) (hb _ hcw)
    · have hlt' : decide (k < l.length) = false := by simpa using hlt
      have hkl : k = l.length := by omega
      obtain ⟨a3, cap3, rfl⟩ := ownsRow_slice hown
      have HOWN := hid hown
      have HKP := hid hkp
      have HQ := hid hq
      have HKL := hid hkl
      clear hown hkp hq hkl hlt
      go_wp2_with fail
      obtain ⟨wa, rfl⟩ : ∃ wa : World, wa = wr := ⟨_, rfl⟩
      obtain ⟨ga, rfl⟩ : ∃ ga : Nat, ga = gk := ⟨_, rfl⟩
      go_loopg [26] l.length (ListInv2 own t qb cap l cb s r w wa)
      case atStart => exact ⟨0, by omega, rfl, Keeps.refl _ _, by have := HQ.out; rw [HKL.out] at this; simpa using this⟩
      case round =>
        obtain ⟨j, hj, rfl, hkp2, hq2⟩ := hrel
        have HKP2 := hid hkp2
        have HQ2 := hid hq2
        clear hkp2 hq2
        by_cases hlt2 : j < k
        · have hlt3 : decide (j < k) = true := by simpa using hlt2
          obtain ⟨g, rfl, hc⟩ := ownsRow_cell (ownsRow_keeps HOWN.out HKP2.out fun g _ h1 _ h2 => by omega) hlt2
          have hc' : wr.cell? ⟨g, j, none⟩ = some (.int .i64 (l[j]'(by omega))) := by
            rw [hc, List.getElem?_take_of_lt hlt2]; simp [show j < l.length by omega, intV]
          clear hc
          go_wp2_with fail
          refine Calls.mono (Put_calls own t qb cap (l.take j) cb (s + j) (r + l.length) (l[j]'(by omega)) _ HQ2.out (by simp; omega)) ?_
          rintro e w3 ⟨rfl, hq3, hk3, hs3⟩
          have HQ3 := hid hq3
          have HK3 := hid hk3
          have HS3 := hid hs3
          clear hq3 hk3 hs3
          go_wp2
          go_roundg (gk - 1)
          case measure => omega
          case rel =>
            refine ⟨j + 1, by omega, by go_num, HKP2.out.trans' HK3.out fun i _ h => h, ?_⟩
            rw [List.take_succ_eq_append_getElem (by omega)]; exact HQ3.out
        · have hlt3 : decide (j < k) = false := by simpa using hlt2
          have HJ := hid hj
          clear hj
          go_wp2
          go_ret
          have hjl : j = l.length := by have := HKL.out; have := HJ.out; omega
          have hQ := HQ2.out
          rw [hjl] at hQ
          simp only [List.take_length] at hQ
          refine ⟨_, rfl, ?_, HKP.out.trans HKP2.out, hQ⟩
          have := ownsRow_keeps HOWN.out HKP2.out fun g _ h1 _ h2 => by omega
          have hkl := HKL.out
          rw [List.take_of_length_le (by simp; omega)] at this
          rw [← hkl]; exact this

structure QIter (own : Nat → Nat) (t : Nat) (l : List Int) (J : Inv) (w w1 : World) (qb cb cap : Nat) (v : Value) (i : Value) (wr : World) : Prop where
  ex : ∃ (k : Nat) (D : Nat → Prop), i = .int .i64 (k : Int) ∧ k ≤ l.length ∧ J k D wr ∧ w1.heap.size ≤ wr.heap.size ∧ (∀ b, w.heap.size ≤ b → b < w1.heap.size → ¬ D b) ∧ (∃ s r, QAt wr own t qb cap l cb s r) ∧ wr.ownsRow w.heap.size 3 1 v l.length (l.map intV)

theorem qAll_calls (qb : Nat) (w : World) :
    Calls Tryz.prog 150 #[.pointer (some ⟨qb, 0, none⟩)] w fun e w' => e = .returned (.func (.func 190) #[] #[.pointer (some ⟨w.heap.size, 0, none⟩)]) ∧
      w' = w.alloc (.cells #[.pointer (some ⟨qb, 0, none⟩)] 153) := by
  go_enter Tryz.func150, Tryz.ntmps150
  go_wp2
  go_ret
  exact ⟨rfl, rfl⟩

def qRows (l : List Int) : List (Array Value) := l.mapIdx fun i x => #[.int .i64 (i : Int), .int .i64 x]

set_option maxHeartbeats 1000000 in
set_option maxRecDepth 100000 in
theorem qAll_iter (own : Nat → Nat) (t qb cap : Nat) (l : List Int) (cb s r bx : Nat) (Bd : Nat → Prop) (w : World) (h : QAt w own t qb cap l cb s r) (hl : l.length ≤ cap) (hcap : cap ≤ 4096)
    (hbx : w.cell? ⟨bx, 0, none⟩ = some (.pointer (some ⟨qb, 0, none⟩))) (hB2 : ¬ Bd qb) (hB3 : ¬ Bd cb) (hB : ∀ b, Bd b → b < w.heap.size) :
    Iter Tryz.prog 190 #[.pointer (some ⟨bx, 0, none⟩)] (qRows l) (fun b => b = cb) Bd (fun Y => ∃ s r, QAt Y own t qb cap l cb s r) w := by
  intro lp J Jx hJ hJx hJD hY hrec h0
  have hq0 : qb ≠ lp := by
    obtain ⟨r0, hr0⟩ := hrec
    intro e; subst e; have := hr0.symm.trans h.heap; cases this
  have hc0 : cb ≠ lp := by
    obtain ⟨r0, hr0⟩ := hrec
    intro e; subst e; have := hr0.symm.trans h.chan; cases this
  have H := hid h
  have hcw := lt_of h.chan
  have hqw := lt_of h.heap
  clear h
  refine callsIn_of_wp Tryz.func190 rfl trivial ?_ rfl
  simp only [Tryz.ntmps190, List.size_toArray, List.length_cons, List.length_nil, Nat.reduceAdd, Nat.reduceSub, Array.replicate_succ, Array.replicate_zero, List.push_toArray, List.append_toArray, List.nil_append, List.cons_append]
  gi_wp2_with fail
  refine ⟨trivial, CallsIn.mono (callsIn_wide.2 (list_calls own t qb cap l cb s r _ H.out hl hcap)) ?_⟩
  rintro e w1 ⟨v, rfl, hown, hkp, hq⟩
  obtain ⟨a3, cap3, rfl⟩ := ownsRow_slice hown
  have HOWN := hid hown
  have HKP := hid hkp
  have HQ := hid hq
  clear hown hkp hq
  gi_wp2_with fail
  gi_loopw [8] (fun i wr => QIter own t l J w w1 qb cb cap (.slice a3 l.length cap3) i wr) (fun i _ => l.length - (intOf i).toNat)
  case atStart =>
    refine ⟨0, fun _ => False, rfl, Nat.zero_le _, hJ _ _ _ _ h0 (IterStep.of_keeps HKP.out fun _ _ h => h), Nat.le_refl _, fun _ _ _ h => h, ⟨_, _, HQ.out⟩, HOWN.out⟩
  case round =>
    obtain ⟨k, D, rfl, hkl, hj, hsz, hnd, ⟨s', r', hq⟩, hown⟩ := hrel
    have hs1 := HKP.out.size
    by_cases hlt : k < l.length
    · have hlt' : decide (k < l.length) = true := by simpa using hlt
      obtain ⟨g, hg, hc⟩ := ownsRow_cell hown hlt
      have hgb := ownsRow_block HOWN.out (g := g) (by rw [hg]; rfl)
      subst hg
      have hc' : wr.cell? ⟨g, k, none⟩ = some (.int .i64 l[k]) := by rw [hc]; simp [hlt, intV]
      obtain ⟨fn, tmps, assign, body, hy, hR⟩ := hY k D wr #[.int .i64 (k : Int), .int .i64 l[k]] (by simp [qRows, hlt]) hj (by omega)
      have HQ' := hid hq
      have HOWN' := hid hown
      have HND := hid hnd
      have HJ := hid hj
      clear hc hq hown hnd hj
      gi_wp2_with fail
      refine hR.mono ?_
      rintro e W3 (⟨rfl, D', hJ3, hg3⟩ | ⟨rfl, hJx3, hk3⟩)
      · have hD := hJD _ _ _ HJ.out
        have hown3 := ownsRow_keeps HOWN'.out hg3.keeps (fun g' h1 h2 h3 h4 => by
          cases h1
          rcases h4 with h4 | h4
          · have := hB _ h4; omega
          · exact HND.out _ hgb.1 hgb.2.1 h4)
        have hq3 := HQ'.out.keeps hg3.keeps (fun h => h.elim hB2 fun h => by have := hD _ h; omega) (fun h => h.elim hB3 fun h => by have := hD _ h; omega)
        have hnd3 : ∀ b, w.heap.size ≤ b → b < w1.heap.size → ¬ D' b := fun b h1 h2 h3 => (hg3.grow b h3).elim (HND.out b h1 h2) (by omega)
        have hs3 := hg3.keeps.size
        have R3 := hid (And.intro hown3 (And.intro hq3 (And.intro hnd3 (And.intro hJ3 hs3))))
        clear hown3 hq3 hnd3 hJ3 hs3 hg3 hD
        gi_wp2
        go_roundw
        case rel => exact ⟨k + 1, D', by go_num, hlt, R3.out.2.2.2.1, by have := R3.out.2.2.2.2; omega, R3.out.2.2.1, ⟨_, _, R3.out.2.1⟩, R3.out.1⟩
        case measure => simp [intOf]; omega
      · have hD := hJD _ _ _ HJ.out
        have X3 := hid hJx3
        have F3 : Hid (∃ s r, QAt W3 own t qb cap l cb s r) := hid ⟨_, _, HQ'.out.keeps hk3 (fun h => h.elim hB2 fun h => h.elim (fun h => by have := hD _ h; omega) hq0) (fun h => h.elim hB3 fun h => h.elim (fun h => by have := hD _ h; omega) hc0)⟩
        clear hJx3 hD hk3
        gi_wp2
        refine bodyPost_ret (results_none rfl _ _ _) rfl ?_
        exact ⟨⟨_, rfl⟩, F3.out, .inr X3.out⟩
    · have hlt' : decide (k < l.length) = false := by simpa using hlt
      have hkl2 : k = l.length := by omega
      have F3 := hid (And.intro hkl2 (And.intro hj hq))
      clear hkl2 hj hq hlt hnd hown
      gi_wp2
      go_end0
      obtain ⟨h1, h2, h3⟩ := F3.out
      exact ⟨⟨_, rfl⟩, ⟨_, _, h3⟩, .inl ⟨D, by rw [show (qRows l).length = l.length by simp [qRows], ← h1]; exact h2⟩⟩
end Go.Rv

/- The pool of free zones. -/
namespace Go.Rv
open Go Go.RowKit Go.Proofs Go.Conc

attribute [local go_sem] Oper.semAt_some

structure GeomS where
  domains : Int
  zones : Int
  size : Int
  blocks : Int
  spare : Int
  opn : Int

def geomL (g : GeomS) : List Value := [.int .i64 g.domains, .int .i64 g.zones, .int .i64 g.size, .int .i64 g.blocks, .int .i64 g.spare, .int .i64 g.opn]
def geomV (g : GeomS) : Value := .agg #[.int .i64 g.domains, .int .i64 g.zones, .int .i64 g.size, .int .i64 g.blocks, .int .i64 g.spare, .int .i64 g.opn]

/-- The queues of a pool. -/
def QsAt (w : World) (own : Nat → Nat) (nd cap : Nat) (qb cb : Nat → Nat) (L : Nat → List Int) : Prop :=
  ∀ d, d < nd → ∃ s r, QAt w own (16 + d) (qb d) cap (L d) (cb d) s r

/-- The pool's struct and its list of queues. -/
structure PoolHead (w : World) (own : Nat → Nat) (pb : Nat) (g : GeomS) (nd lb lc : Nat) (cur : Array Value) (qb : Nat → Nat) : Prop where
  mine : own pb = 3
  minel : own lb = 3
  heap : w.heap[pb]? = some (.cells #[.int .i64 g.domains, .int .i64 g.zones, .int .i64 g.size, .int .i64 g.blocks, .int .i64 g.spare, .int .i64 g.opn, .slice (some ⟨lb, 0, none⟩) nd lc] 152 (0, 0))
  list : w.heap[lb]? = some (.cells cur 153 (0, 0))
  elems : ∀ d, d < nd → cur[d]? = some (.pointer (some ⟨qb d, 0, none⟩))

theorem PoolHead.keeps {w w' : World} {own : Nat → Nat} {pb : Nat} {g : GeomS} {nd lb lc : Nat} {cur : Array Value} {qb : Nat → Nat} {M : Nat → Prop} (h : PoolHead w own pb g nd lb lc cur qb) (hk : Keeps M w w') (h1 : ¬ M pb) (h2 : ¬ M lb) : PoolHead w' own pb g nd lb lc cur qb :=
  ⟨h.mine, h.minel, hk.heap h.heap h1, hk.heap h.list h2, h.elems⟩

theorem pAll_calls (pb : Nat) (w : World) :
    Calls Tryz.prog 105 #[.pointer (some ⟨pb, 0, none⟩)] w fun e w' => e = .returned (.func (.func 149) #[] #[.pointer (some ⟨w.heap.size, 0, none⟩)]) ∧
      w' = w.alloc (.cells #[.pointer (some ⟨pb, 0, none⟩)] 49) := by
  go_enter Tryz.func105, Tryz.ntmps105
  go_wp2
  go_ret
  exact ⟨rfl, rfl⟩

def pRow (d : Nat) (x : Int) : Array Value := #[.int .i64 (d : Int), .int .i64 x]
def pRows (L : Nat → List Int) : Nat → List (Array Value)
  | 0 => []
  | d + 1 => pRows L d ++ (L d).map (pRow d)

theorem pRows_get (L : Nat → List Int) : ∀ (nd d j : Nat), d < nd → (hj : j < (L d).length) → (pRows L nd)[(pRows L d).length + j]? = some (pRow d (L d)[j])
  | 0, d, j, h, _ => by omega
  | nd + 1, d, j, h, hj => by
    by_cases hd : d = nd
    · subst hd
      simp [pRows, hj]
    · have ih := pRows_get L nd d j (by omega) hj
      have hlt : (pRows L d).length + j < (pRows L nd).length := by
        rcases Nat.lt_or_ge ((pRows L d).length + j) (pRows L nd).length with h | h
        · exact h
        · rw [List.getElem?_eq_none h] at ih; cases ih
      rw [pRows, List.getElem?_append_left hlt]
      exact ih

structure PIter (own : Nat → Nat) (nd cap : Nat) (qb cb : Nat → Nat) (L : Nat → List Int) (J : Inv) (w : World) (lp lb : Nat) (cur : Array Value) (rs : List Nat) (i : Value) (wr : World) : Prop where
  ex : ∃ (d : Nat) (D : Nat → Prop), i = .int .i64 (d : Int) ∧ d ≤ nd ∧ J (pRows L d).length D wr ∧ w.heap.size + 1 ≤ wr.heap.size ∧ ¬ D w.heap.size ∧ QsAt wr own nd cap qb cb L ∧
    wr.heap[w.heap.size]? = some (.cells #[.func (.yield lp) #[] #[]] 142 (0, 0)) ∧ wr.heap[lb]? = some (.cells cur 153 (0, 0)) ∧
    Marks wr rs ∧ (∀ r ∈ rs, ¬ D r ∧ w.heap.size ≤ r)

/-- what holds between two rounds of the loop over one queue. -/
structure PInner (own : Nat → Nat) (nd cap : Nat) (qb cb : Nat → Nat) (L : Nat → List Int) (J : Inv) (w wi : World) (lp lb : Nat) (cur : Array Value) (rs : List Nat) (d : Nat) (D0 : Nat → Prop) (wr : World) (j : Nat) (Di : Nat → Prop) (X : World) : Prop where
  ex : ∃ D, J ((pRows L d).length + j) D X ∧ (∀ b, D b → D0 b ∨ Di b) ∧ (∀ b, Di b → wi.heap.size + 2 ≤ b ∧ b < X.heap.size)
  size : wi.heap.size ≤ X.heap.size
  nD : ¬ D0 w.heap.size
  others : ∀ d', d' < nd → d' ≠ d → ∃ s r, QAt X own (16 + d') (qb d') cap (L d') (cb d') s r
  yb : X.heap[w.heap.size]? = some (.cells #[.func (.yield lp) #[] #[]] 142 (0, 0))
  lst : X.heap[lb]? = some (.cells cur 153 (0, 0))
  dbox : X.heap[wr.heap.size]? = some (.cells #[.int .i64 (d : Int)] 3 (0, 0))
  marks : Marks X rs
  nDm : ∀ r ∈ rs, ¬ D0 r ∧ w.heap.size ≤ r ∧ r < wi.heap.size

structure PLoop (own : Nat → Nat) (nd cap : Nat) (qb cb : Nat → Nat) (L : Nat → List Int) (J : Inv) (w : World) (lp lb : Nat) (cur : Array Value) (pb bx lc : Nat) (a : Act) (X : World) : Prop where
  ex : ∃ u3 u4 u6 u13 u14 u15 u16 u17 u18 u19 u20 u21 u22 u23 u24 u25 u26 i rs, a = { tmps := #[.func (.yield lp) #[] #[], .pointer (some ⟨bx, 0, none⟩), .pointer (some ⟨w.heap.size, 0, none⟩), u3, u4, undef, u6, .pointer (some ⟨pb, 0, none⟩), .pointer (some ⟨pb, 0, none⟩), .pointer (some ⟨pb, 6, none⟩), .slice (some ⟨lb, 0, none⟩) nd lc, .int .i64 nd, i, u13, u14, u15, u16, u17, u18, u19, u20, u21, u22, u23, u24, u25, u26], defers := rs.map markOf } ∧ PIter own nd cap qb cb L J w lp lb cur rs i X

theorem PInner.step {own : Nat → Nat} {nd cap : Nat} {qb cb : Nat → Nat} {L : Nat → List Int} {J : Inv} {w wi : World} {lp lb : Nat} {cur : Array Value} {rs : List Nat} {d : Nat} {D0 : Nat → Prop} {wr : World} {j : Nat} {Di : Nat → Prop} {X Y : World}
    (hp : PInner own nd cap qb cb L J w wi lp lb cur rs d D0 wr j Di X) (hst : IterStep (fun b => b = cb d) wi.heap.size X Y)
    (hJ : ∀ k D X Y, J k D X → IterStep (fun b => ∃ d, d < nd ∧ b = cb d) w.heap.size X Y → J k D Y) (hlt : d < nd) (hs : w.heap.size + 1 ≤ wr.heap.size) (hs2 : wi.heap.size = wr.heap.size + 2)
    (hcb : cb d < w.heap.size) (hlb : lb ≠ cb d) (hlb2 : lb < w.heap.size) (hne : ∀ d', d' < nd → d' ≠ d → cb d' ≠ cb d ∧ qb d' ≠ cb d) (hq : ∀ d', d' < nd → qb d' < w.heap.size ∧ cb d' < w.heap.size) :
    PInner own nd cap qb cb L J w wi lp lb cur rs d D0 wr j Di Y := by
  have kp : ∀ {b : Nat} {o : Obj}, X.heap[b]? = some o → b < wi.heap.size → b ≠ cb d → Y.heap[b]? = some o := fun ho h1 h2 => Keeps.heap hst ho (fun h => h.elim h2 fun h => by omega)
  obtain ⟨D, h1, h2, h3⟩ := hp.ex
  have hz := hst.size
  refine ⟨⟨D, hJ _ _ _ _ h1 (hst.mono (fun b h => ⟨d, hlt, h⟩) (by omega)), h2, fun b hb => ⟨(h3 b hb).1, by have := (h3 b hb).2; omega⟩⟩, Nat.le_trans hp.size hz, hp.nD, ?_, kp hp.yb (by omega) (by omega), kp hp.lst (by omega) hlb, kp hp.dbox (by omega) (by omega), ⟨hp.marks.nodup, fun r hr => kp (hp.marks.at_ r hr) (hp.nDm r hr).2.2 (by have := (hp.nDm r hr).2.1; omega)⟩, hp.nDm⟩
  intro d' h4 h5
  obtain ⟨s, r, hx⟩ := hp.others d' h4 h5
  have h6 := hne d' h4 h5
  have h7 := hq d' h4
  exact ⟨s, r, ⟨hx.mine, hx.minec, kp hx.heap (by omega) h6.2, kp hx.chan (by omega) h6.1⟩⟩

set_option maxHeartbeats 2000000 in
set_option maxRecDepth 100000 in
theorem pAll_iter (own : Nat → Nat) (pb : Nat) (g : GeomS) (nd lb lc cap bx : Nat) (cur : Array Value) (qb cb : Nat → Nat) (L : Nat → List Int) (Bd : Nat → Prop) (w : World) (h : PoolHead w own pb g nd lb lc cur qb) (hq : QsAt w own nd cap qb cb L)
    (hl : ∀ d, d < nd → (L d).length ≤ cap) (hcap : cap ≤ 4096) (hnd : nd ≤ 8)
    (hbx : w.heap[bx]? = some (.cells #[.pointer (some ⟨pb, 0, none⟩)] 49 (0, 0)))
    (hB : ∀ b, Bd b → b < w.heap.size ∧ b ≠ bx ∧ own b = 0) :
    Iter Tryz.prog 149 #[.pointer (some ⟨bx, 0, none⟩)] (pRows L nd) (fun b => ∃ d, d < nd ∧ b = cb d) Bd (fun Y => QsAt Y own nd cap qb cb L) w := by
  intro lp J Jx hJ hJx hJD hY hrec h0
  have HQ := hid hq
  have hc := cell_of hbx 0
  have hpb := cell_of h.heap 6
  have hbxw := lt_of hbx
  have hpw := lt_of h.heap
  have hlw := lt_of h.list
  obtain ⟨rlp, hrlp⟩ := hrec
  have hlpw := lt_of hrlp
  have HRL := hid hrlp
  clear hrlp
  have H := hid h
  have HBX := hid hbx
  clear h hq hbx
  simp at hc hpb
  refine callsIn_of_wp_marks Tryz.func149 rfl trivial ?_ rfl
  simp only [Tryz.ntmps149, List.size_toArray, List.length_cons, List.length_nil, Nat.reduceAdd, Nat.reduceSub, Array.replicate_succ, Array.replicate_zero, List.push_toArray, List.append_toArray, List.nil_append, List.cons_append]
  gi_wp2_with fail
  refine wpIn_loop_k (fun a X => PLoop own nd cap qb cb L J w lp lb cur pb bx lc a X) (fun a _ => nd - (intOf (a.tmps.getD 12 undef)).toNat) ?atStart ?round
  case atStart =>
    refine ⟨undef, undef, undef, undef, undef, undef, undef, undef, undef, undef, undef, undef, undef, undef, undef, undef, undef, .int .i64 (0 : Nat), [], rfl, 0, fun _ => False, rfl, Nat.zero_le _, hJ _ _ _ _ h0 ((Keeps.refl _ _).alloc _), by simp, fun h => h, ?_, heap_new _ _, heap_old _ _ H.out.list, ⟨List.nodup_nil, by simp⟩, by simp⟩
    intro d hd
    obtain ⟨s, r, hq⟩ := HQ.out d hd
    exact ⟨s, r, hq.keeps (M := fun _ => False) ((Keeps.refl _ _).alloc _) (fun h => h) (fun h => h)⟩
  case round =>
    rintro a wr ⟨u3, u4, u6, u13, u14, u15, u16, u17, u18, u19, u20, u21, u22, u23, u24, u25, u26, i, rs, rfl, hpi⟩ K hK
    obtain ⟨d, D, rfl, hd, hj, hsz, hnD, hqs, hyb, hlb, hmk, hmD⟩ := hpi
    have HK := hid hK
    have HMK := hid hmk
    have HMD := hid hmD
    clear hK hmk hmD
    by_cases hlt : d < nd
    · have hlt' : decide (d < nd) = true := by simpa using hlt
      have hce : wr.cell? ⟨lb, d, none⟩ = some (.pointer (some ⟨qb d, 0, none⟩)) := (cell_of hlb d).trans (H.out.elems d hlt)
      have HJ := hid hj
      have HD := hid hnD
      have HQS := hid hqs
      have HYB := hid hyb
      have HLB := hid hlb
      clear hj hnD hqs hyb hlb
      gi_wp2_with fail
      refine ⟨trivial, CallsIn.mono (callsIn_wide.2 (qAll_calls (qb d) _)) ?_⟩
      rintro e w1 ⟨rfl, rfl⟩
      gi_wp2_with fail
      obtain ⟨wi, hwi⟩ : ∃ wi, (wr.alloc (.cells #[.int .i64 (d : Int)] 3)).alloc (.cells #[.pointer (some ⟨qb d, 0, none⟩)] 153) = wi := ⟨_, rfl⟩
      rw [hwi]
      have hki : Keeps (fun _ => False) wr wi := by rw [← hwi]; exact ((Keeps.refl _ _).alloc _).alloc _
      have hsi : wi.heap.size = wr.heap.size + 2 := by rw [← hwi]; simp
      have hb1 : wi.heap[wr.heap.size]? = some (.cells #[.int .i64 (d : Int)] 3 (0, 0)) := by rw [← hwi]; exact heap_old _ _ (heap_new _ _)
      have hb2 : wi.heap[wr.heap.size + 1]? = some (.cells #[.pointer (some ⟨qb d, 0, none⟩)] 153 (0, 0)) := by
        rw [← hwi]; have := heap_new (wr.alloc (.cells #[.int .i64 (d : Int)] 3)) (.cells #[.pointer (some ⟨qb d, 0, none⟩)] 153); rwa [World.size_alloc] at this
      obtain ⟨s0, r0, hqd⟩ := HQS.out d hlt
      have hqdi := hqd.keeps hki (fun h => h) (fun h => h)
      have hDw := hJD _ _ _ HJ.out
      have hcbi : ∀ d', d' < nd → cb d' < wr.heap.size := fun d' h' => by obtain ⟨s1, r1, hx⟩ := HQS.out d' h'; exact lt_of hx.chan
      have hqbi : ∀ d', d' < nd → qb d' < wr.heap.size := fun d' h' => by obtain ⟨s1, r1, hx⟩ := HQS.out d' h'; exact lt_of hx.heap
      have hcne : ∀ d', d' < nd → d' ≠ d → cb d' ≠ cb d ∧ qb d' ≠ cb d := fun d' h' hne => by
        obtain ⟨s1, r1, hx⟩ := HQS.out d' h'
        have e1 := hx.minec; have e2 := hx.mine; have e3 := hqd.minec
        exact ⟨fun e => by rw [e, e3] at e1; omega, fun e => by rw [e, e3] at e2; omega⟩
      have hqbw0 : ∀ d', d' < nd → qb d' < w.heap.size ∧ cb d' < w.heap.size := fun d' h' => by obtain ⟨s1, r1, hx⟩ := HQ.out d' h'; exact ⟨lt_of hx.heap, lt_of hx.chan⟩
      have hcdw := (hqbw0 d hlt).2
      have hlbne : lb ≠ cb d := fun e => by have h1 := hqd.minec; rw [← e, H.out.minel] at h1; omega
      have HI := hid (And.intro hki (And.intro hsi (And.intro hb1 (And.intro hb2 (And.intro hqdi (And.intro hDw (And.intro hcbi (And.intro hqbi hcne))))))))
      refine wpIn_any rfl (wpIn_range (gf := 190) (lb := #[.pointer (some ⟨wr.heap.size + 1, 0, none⟩)]) rfl (enters_of Tryz.func190 (by kernel_rfl) rfl) (qRows (L d)) (fun b => b = cb d) (fun b => Bd b ∨ D b ∨ b = lp)
        (fun Y => ∃ s r, QAt Y own (16 + d) (qb d) cap (L d) (cb d) s r) ?hps ?hA ?hB ?hit ?hFin
        (PInner own nd cap qb cb L J w wi lp lb cur rs d D wr) (fun c X => c = .ret ∧ Jx X ∧ Marks X rs ∧ ∀ d', d' < nd → d' ≠ d → ∃ s r, QAt X own (16 + d') (qb d') cap (L d') (cb d') s r) (fun j a' Di X => PInner own nd cap qb cb L J w wi lp lb cur rs d D wr j Di X ∧ ∃ x, (L d)[j]? = some x ∧ a' = { tmps := #[.func (.yield lp) #[] #[], .pointer (some ⟨bx, 0, none⟩), .pointer (some ⟨w.heap.size, 0, none⟩), .pointer (some ⟨wr.heap.size, 0, none⟩), .pointer (some ⟨qb d, 0, none⟩), undef, .int .i64 x, .pointer (some ⟨pb, 0, none⟩), .pointer (some ⟨pb, 0, none⟩), .pointer (some ⟨pb, 6, none⟩), .slice (some ⟨lb, 0, none⟩) nd lc, .int .i64 nd, .int .i64 d, .bool true, .int .i64 d, .pointer (some ⟨lb, d, none⟩), .pointer (some ⟨qb d, 0, none⟩), .pointer (some ⟨qb d, 0, none⟩), .func (.func 190) #[] #[.pointer (some ⟨wr.heap.size + 1, 0, none⟩)], .int .i64 j, .int .i64 x, u21, u22, u23, u24, u25, u26], defers := [] })
        ?hI ?hIx ?hAx ?hD ?hDx ?h0 ?hassign ?hbody ?hdone ?hstop)
      case hps => intro x hx; simp [qRows] at hx; obtain ⟨i, hi, rfl⟩ := hx; rfl
      case hA => intro b hb; subst hb; have := hcbi d hlt; omega
      case hB => intro b hb; rcases hb with hb | hb | hb
                 · have := (hB b hb).1; omega
                 · have := hDw b hb; omega
                 · have := hlpw; omega
      case hit =>
        intro W' hst hsz'
        refine qAll_iter own (16 + d) (qb d) cap (L d) (cb d) s0 r0 (wr.heap.size + 1) _ W' (hqdi.keeps hst ?_ ?_) (hl d hlt) hcap ?_ ?_ ?_ ?_
        · exact fun h => h.elim id fun h => by have := hqbi d hlt; omega
        · exact fun h => h.elim id fun h => by have := hcbi d hlt; omega
        · have := Keeps.heap hst hb2 (fun h => h.elim id fun h => by omega)
          rw [cell_of this]; rfl
        · rintro (h | h | h)
          · have := (hB _ h).2.2; rw [hqd.mine] at this; omega
          · have := (hDw _ h).1; have := (hqbw0 d hlt).1; omega
          · have := hqd.heap; have h4 := (HQ.out d hlt); obtain ⟨_, _, hz⟩ := h4; rw [h] at hz; have := hz.heap.symm.trans HRL.out; cases this
        · rintro (h | h | h)
          · have := (hB _ h).2.2; rw [hqd.minec] at this; omega
          · have := (hDw _ h).1; have := (hqbw0 d hlt).2; omega
          · have h4 := (HQ.out d hlt); obtain ⟨_, _, hz⟩ := h4; rw [h] at hz; have := hz.chan.symm.trans HRL.out; cases this
        · rintro b (h | h | h)
          · have := (hB _ h).1; omega
          · have := (hDw _ h).2; omega
          · omega
      case hFin =>
        rintro X Y ⟨s1, r1, hx⟩ hst
        exact ⟨s1, r1, hx.keeps hst (fun h => h.elim id fun h => by have := (hqbw0 d hlt).1; omega) (fun h => h.elim id fun h => by have := (hqbw0 d hlt).2; omega)⟩
      case hassign =>
        intro l k D' x X K hx hsz2 hi hK
        have hkl : k < (L d).length := by have := (List.getElem?_eq_some_iff.1 hx).1; simpa [qRows] using this
        have hx' : x = #[.int .i64 (k : Int), .int .i64 (L d)[k]] := by simp [qRows, hkl] at hx; exact hx.symm
        subst hx'
        have HK := hid hK
        have HII := hid hi
        clear hK hi hx
        gi_wp2
        exact HK.out _ D' _ ⟨Keeps.refl _ _, fun b hb => .inl hb⟩ ⟨HII.out, (L d)[k], by simp [hkl], rfl⟩
      case hbody =>
        rintro l j a' Di X hj hlw2 hsz2 hlr ⟨hp, x, hx, rfl⟩
        obtain ⟨D', hJ', hD', hDi⟩ := hp.ex
        have hjl : j < (L d).length := (List.getElem?_eq_some_iff.1 hx).1
        have hx2 : (L d)[j] = x := by rw [List.getElem?_eq_getElem hjl] at hx; exact Option.some.inj hx
        have hrow := pRows_get L nd d j hlt hjl
        rw [hx2] at hrow
        obtain ⟨fn, tmps, assign, body, hy, hR⟩ := hY _ D' X _ hrow hJ' (by omega)
        have hcy := cell_of hp.yb 0
        have hcd := cell_of hp.dbox 0
        simp at hcy hcd
        unfold pRow at hy
        have HP := hid hp
        have HX := hid (And.intro hJ' (And.intro hD' (And.intro hDi hR)))
        clear hp hJ' hD' hDi hR hx hx2 hrow
        gi_wp2_with fail
        refine roundIn_any rfl (RoundIn.mono (n := 1) HX.out.2.2.2 ?_)
        have hp := HP.out
        obtain ⟨hJ', hD', hDi, -⟩ := HX.out
        have hDX := hJD _ _ _ hJ'
        have notB : ∀ b, b < w.heap.size → own b ≠ 0 → ¬ (Bd b ∨ D' b) := fun b h1 h2 h3 => h3.elim (fun h3 => h2 (hB b h3).2.2) fun h3 => by have := (hDX b h3).1; omega
        have nDw : ¬ D' w.heap.size := fun h => by
          rcases hD' _ h with h | h
          · exact hp.nD h
          · have := (hDi _ h).1; omega
        have nDr : ¬ D' wr.heap.size := fun h => by
          rcases hD' _ h with h | h
          · have := (hDw _ h).2; omega
          · have := (hDi _ h).1; omega
        have nBw : ∀ b, w.heap.size ≤ b → ¬ Bd b := fun b h1 h2 => by have := (hB b h2).1; omega
        have hqbw := hqbw0
        rintro e Y (⟨rfl, D2, hJ2, hg2⟩ | ⟨rfl, hJx2, hk2⟩)
        · have hN : PInner own nd cap qb cb L J w wi lp lb cur rs d D wr (j + 1) (fun b => D2 b ∧ ¬ D b) Y := by
            refine ⟨⟨D2, by rw [← Nat.add_assoc]; exact hJ2, ?_, ?_⟩, Nat.le_trans hp.size hg2.keeps.size, hp.nD, ?_, ?_, ?_, ?_, ?_, ?_⟩
            · intro b h
              by_cases hb : D b
              · exact .inl hb
              · exact .inr ⟨h, hb⟩
            · rintro b ⟨h1, h2⟩
              refine ⟨?_, (hJD _ _ _ hJ2 b h1).2⟩
              rcases hg2.grow b h1 with h | h
              · exact (hDi b ((hD' b h).resolve_left h2)).1
              · omega
            · intro d' h1 h2
              obtain ⟨s1, r1, hx⟩ := hp.others d' h1 h2
              have h3 := hqbw d' h1
              exact ⟨s1, r1, hx.keeps hg2.keeps (notB _ h3.1 (by rw [hx.mine]; omega)) (notB _ h3.2 (by rw [hx.minec]; omega))⟩
            · exact hg2.keeps.heap hp.yb (fun h => h.elim (nBw _ (Nat.le_refl _)) nDw)
            · exact hg2.keeps.heap hp.lst (notB _ hlw (by rw [H.out.minel]; decide))
            · exact hg2.keeps.heap hp.dbox (fun h => h.elim (nBw _ (by omega)) nDr)
            · exact hp.marks.keeps hg2.keeps fun r hr h => h.elim (nBw _ (hp.nDm r hr).2.1) fun h => (hD' r h).elim (hp.nDm r hr).1 fun h => by have := (hDi r h).1; have := (hp.nDm r hr).2.2; omega
            · exact hp.nDm
          have hG : Grow (fun b => Bd b ∨ D b ∨ b = lp) Di (fun b => D2 b ∧ ¬ D b) X Y := by
            refine ⟨hg2.keeps.mono fun b _ hb => hb.elim (fun h => .inl (.inl h)) fun h => (hD' b h).elim (fun h => .inl (.inr (.inl h))) .inr, ?_⟩
            rintro b ⟨h1, h2⟩
            exact (hg2.grow b h1).imp (fun h => (hD' b h).resolve_left h2) id
          have HN := hid (And.intro hN hG)
          clear hN hG hg2 hJ2 hp hDX notB nDw nDr nBw
          gi_wp2
          exact ⟨_, HN.out.2, HN.out.1⟩
        · have hO : ∀ d', d' < nd → d' ≠ d → ∃ s r, QAt Y own (16 + d') (qb d') cap (L d') (cb d') s r := by
            intro d' h1 h2
            obtain ⟨s1, r1, hx⟩ := hp.others d' h1 h2
            have h3 := hqbw d' h1
            have n1 : qb d' ≠ lp := fun e => by have h4 := (HQ.out d' h1); obtain ⟨_, _, hz⟩ := h4; rw [e] at hz; have := hz.heap.symm.trans HRL.out; cases this
            have n2 : cb d' ≠ lp := fun e => by have h4 := (HQ.out d' h1); obtain ⟨_, _, hz⟩ := h4; rw [e] at hz; have := hz.chan.symm.trans HRL.out; cases this
            refine ⟨s1, r1, hx.keeps hk2 (fun h => ?_) (fun h => ?_)⟩
            · rcases h with h | h | h
              · exact notB _ h3.1 (by rw [hx.mine]; omega) (.inl h)
              · exact notB _ h3.1 (by rw [hx.mine]; omega) (.inr h)
              · exact n1 h
            · rcases h with h | h | h
              · exact notB _ h3.2 (by rw [hx.minec]; omega) (.inl h)
              · exact notB _ h3.2 (by rw [hx.minec]; omega) (.inr h)
              · exact n2 h
          have hG : Grow (fun b => Bd b ∨ D b ∨ b = lp) Di (fun _ => False) X Y :=
            ⟨hk2.mono fun b _ hb => hb.elim (fun h => .inl (.inl h)) fun h => h.elim (fun h => (hD' b h).elim (fun h => .inl (.inr (.inl h))) .inr) fun h => .inl (.inr (.inr h)), fun _ h => h.elim⟩
          have hM : Marks Y rs := hp.marks.keeps hk2 fun r hr h => by
            rcases h with h | h | h
            · exact nBw _ (hp.nDm r hr).2.1 h
            · exact (hD' r h).elim (hp.nDm r hr).1 fun h => by have := (hDi r h).1; have := (hp.nDm r hr).2.2; omega
            · have := (hp.nDm r hr).2.1; omega
          have HN := hid (And.intro hJx2 (And.intro (And.intro hM hO) hG))
          clear hO hM hG hk2 hJx2 hp hDX notB nDw nDr nBw
          gi_wp2
          exact ⟨_, HN.out.2.2, rfl, HN.out.1, HN.out.2.1.1, HN.out.2.1.2⟩
      case hI =>
        rintro j Di X Y hp hst
        exact hp.step hst hJ hlt hsz hsi hcdw hlbne hlw hcne hqbw0
      case hIx =>
        rintro c X Y ⟨h1, h2, hm, h3⟩ hst
        refine ⟨h1, hJx _ _ h2 (hst.mono (fun b h => ⟨d, hlt, h⟩) (by omega)), hm.keeps hst fun r hr h => ?_, fun d' h4 h5 => ?_⟩
        · have h8 := HMD.out r hr; have h9 := lt_of (HMK.out.at_ r hr); rcases h with h | h <;> omega
        obtain ⟨s1, r1, hx⟩ := h3 d' h4 h5
        have h6 := hcne d' h4 h5
        have h7 := hqbw0 d' h4
        exact ⟨s1, r1, hx.keeps hst (fun h => h.elim h6.2 fun h => by omega) (fun h => h.elim h6.1 fun h => by omega)⟩
      case hAx =>
        rintro j a' Di X Y ⟨hp, hx⟩ hst
        exact ⟨hp.step hst hJ hlt hsz hsi hcdw hlbne hlw hcne hqbw0, hx⟩
      case hD =>
        intro j Di X hp b hb
        obtain ⟨D', hJ', hD', hDi⟩ := hp.ex
        exact hDi b hb
      case hDx =>
        rintro j a' Di X ⟨hp, -⟩ b hb
        obtain ⟨D', hJ', hD', hDi⟩ := hp.ex
        exact hDi b hb
      case h0 =>
        refine ⟨⟨D, hJ _ _ _ _ HJ.out (hki.mono fun _ _ h => h.elim), fun b h => .inl h, fun b h => h.elim⟩, Nat.le_refl _, HD.out, ?_, hki.heap HYB.out (fun h => h), hki.heap HLB.out (fun h => h), hb1, HMK.out.keeps hki (fun _ _ h => h), fun r hr => ⟨(HMD.out r hr).1, (HMD.out r hr).2, by have := lt_of (HMK.out.at_ r hr); omega⟩⟩
        intro d' h1 h2
        obtain ⟨s1, r1, hx⟩ := HQS.out d' h1
        exact ⟨s1, r1, hx.keeps hki (fun h => h) (fun h => h)⟩
      case hdone =>
        intro D' Y hfin hp hmark
        obtain ⟨D2, hJ2, hD2, hDi2⟩ := hp.ex
        have hlen : (pRows L (d + 1)).length = (pRows L d).length + (qRows (L d)).length := by simp [pRows, qRows]
        have hstep : PIter own nd cap qb cb L J w lp lb cur (wi.heap.size :: rs) (.int .i64 ((d + 1 : Nat) : Int)) Y := by
          refine ⟨d + 1, D2, rfl, hlt, by rw [hlen]; exact hJ2, ?_, ?_, ?_, hp.yb, hp.lst, ⟨List.nodup_cons.2 ⟨fun h => ?_, hp.marks.nodup⟩, ?_⟩, ?_⟩
          · have := hp.size; omega
          · intro h
            rcases hD2 _ h with h | h
            · exact hp.nD h
            · have := (hDi2 _ h).1; omega
          · intro d' hd'
            by_cases hdd : d' = d
            · subst hdd; exact hfin
            · exact hp.others d' hd' hdd
          · have := (hp.nDm _ h).2.2; omega
          · intro r hr
            rcases List.mem_cons.1 hr with h | h
            · rw [h]; exact hmark
            · exact hp.marks.at_ r h
          · intro r hr
            rcases List.mem_cons.1 hr with h | h
            · subst h
              refine ⟨fun h => ?_, by omega⟩
              rcases hD2 _ h with h | h
              · have := (hDw _ h).2; omega
              · have := (hDi2 _ h).1; omega
            · refine ⟨fun h2 => ?_, (hp.nDm r h).2.1⟩
              rcases hD2 _ h2 with h3 | h3
              · exact (hp.nDm r h).1 h3
              · have := (hDi2 _ h3).1; have := (hp.nDm r h).2.2; omega
        have HS := hid hstep
        clear hstep hp hmark hfin hJ2 hD2 hDi2 hlen
        gi_wp2
        exact HK.out _ _ ⟨_, _, _, _, _, _, _, _, _, _, _, _, _, _, _, _, _, _, wi.heap.size :: rs, rfl, HS.out⟩ (by simp [intOf]; omega)
      case hstop =>
        rintro c Y hfin ⟨rfl, hx, hm, ho⟩ hmark
        have HS : Hid (∀ Z, IterStep (fun _ => False) w.heap.size Y Z → QsAt Z own nd cap qb cb L ∧ Jx Z) := hid fun Z hz => by
          refine ⟨fun d' hd' => ?_, hJx _ _ hx (hz.mono (fun _ h => h.elim) (Nat.le_refl _))⟩
          have h7 := hqbw0 d' hd'
          by_cases hdd : d' = d
          · subst hdd
            obtain ⟨s1, r1, hy⟩ := hfin
            exact ⟨s1, r1, hy.keeps hz (fun h => h.elim id fun h => by omega) (fun h => h.elim id fun h => by omega)⟩
          · obtain ⟨s1, r1, hy⟩ := ho d' hd' hdd
            exact ⟨s1, r1, hy.keeps hz (fun h => h.elim id fun h => by omega) (fun h => h.elim id fun h => by omega)⟩
        have HM : Hid (Marks Y (wi.heap.size :: rs) ∧ ∀ r ∈ wi.heap.size :: rs, w.heap.size ≤ r) := hid ⟨⟨List.nodup_cons.2 ⟨fun h => by have := lt_of (HMK.out.at_ _ h); omega, hm.nodup⟩, fun r hr => by
            rcases List.mem_cons.1 hr with h | h
            · rw [h]; exact hmark
            · exact hm.at_ r h⟩, fun r hr => by
            rcases List.mem_cons.1 hr with h | h
            · omega
            · exact (HMD.out r h).2⟩
        clear hx hm ho hfin hmark
        gi_wp2
        exact leaves_marks (wi.heap.size :: rs) Y HM.out.1 HM.out.2 fun Z hz => ⟨_, results_none rfl _ _ _, ⟨_, rfl⟩, (HS.out Z hz).1, .inr (HS.out Z hz).2⟩
    · have hlt' : decide (d < nd) = false := by simpa using hlt
      have hdn : d = nd := by omega
      have HS : Hid (∀ Z, IterStep (fun _ => False) w.heap.size wr Z → QsAt Z own nd cap qb cb L ∧ J (pRows L nd).length D Z) := hid fun Z hz => by
        refine ⟨fun d' hd' => ?_, hJ _ _ _ _ (by rw [← hdn]; exact hj) (hz.mono (fun _ h => h.elim) (Nat.le_refl _))⟩
        obtain ⟨s1, r1, hy⟩ := hqs d' hd'
        obtain ⟨_, _, hx0⟩ := HQ.out d' hd'
        have h7 := lt_of hx0.heap
        have h8 := lt_of hx0.chan
        exact ⟨s1, r1, hy.keeps hz (fun h => h.elim id fun h => by omega) (fun h => h.elim id fun h => by omega)⟩
      clear hj hqs hnD hyb hlb hlt hdn
      gi_wp2
      exact leaves_marks rs wr HMK.out (fun r hr => (HMD.out r hr).2) fun Z hz => ⟨_, results_none rfl _ _ _, ⟨_, rfl⟩, (HS.out Z hz).1, .inl ⟨_, (HS.out Z hz).2⟩⟩
def pInts (L : Nat → List Int) : Nat → List Int
  | 0 => []
  | d + 1 => pInts L d ++ L d
theorem pRows_len (L : Nat → List Int) : ∀ nd, (pRows L nd).length = (pInts L nd).length
  | 0 => rfl
  | nd + 1 => by simp [pRows, pInts, pRows_len L nd]
theorem pRows_int (L : Nat → List Int) : ∀ (nd k : Nat) (r : Array Value), (pRows L nd)[k]? = some r → ∃ d x, r = pRow d x ∧ (pInts L nd)[k]? = some x
  | 0, k, r, h => by simp [pRows] at h
  | nd + 1, k, r, h => by
    rw [pRows] at h
    by_cases hk : k < (pRows L nd).length
    · rw [List.getElem?_append_left hk] at h
      obtain ⟨d, x, h1, h2⟩ := pRows_int L nd k r h
      exact ⟨d, x, h1, by rw [pInts, List.getElem?_append_left (by rw [← pRows_len]; exact hk)]; exact h2⟩
    · rw [List.getElem?_append_right (by omega), List.getElem?_map, Option.map_eq_some_iff] at h
      obtain ⟨x, h1, h2⟩ := h
      exact ⟨nd, x, h2.symm, by rw [pInts, List.getElem?_append_right (by rw [← pRows_len]; omega), ← pRows_len]; exact h1⟩

/-- between two rounds of Has. -/
structure HasInv (w wi : World) (z : Int) (L : Nat → List Int) (nd : Nat) (cb : Nat → Nat) (k : Nat) (b : Bool) (X : World) : Prop where
  keeps : Keeps (fun b => ∃ d, d < nd ∧ b = cb d) w X
  size : wi.heap.size ≤ X.heap.size
  zbox : X.heap[w.heap.size]? = some (.cells #[.int .i64 z] 3 (0, 0))
  rbox : X.heap[w.heap.size + 1]? = some (.cells #[.bool b] 4 (0, 0))
  none : z ∉ (pInts L nd).take k

theorem HasInv.step {w wi : World} {z : Int} {L : Nat → List Int} {nd : Nat} {cb : Nat → Nat} {k : Nat} {b : Bool} {X Y : World} (h : HasInv w wi z L nd cb k b X) (hst : IterStep (fun b => ∃ d, d < nd ∧ b = cb d) wi.heap.size X Y)
    (hs : wi.heap.size = w.heap.size + 3) (hc : ∀ d, d < nd → cb d < w.heap.size) : HasInv w wi z L nd cb k b Y := by
  have kp : ∀ {i : Nat} {o : Obj}, X.heap[i]? = some o → w.heap.size ≤ i → i < wi.heap.size → Y.heap[i]? = some o := fun ho h1 h2 => Keeps.heap hst ho (fun h => h.elim (fun ⟨d, hd, e⟩ => by have := hc d hd; omega) fun h => by omega)
  exact ⟨h.keeps.trans' hst fun i hi h => h.elim id fun h => by omega, Nat.le_trans h.size hst.size, kp h.zbox (by omega) (by omega), kp h.rbox (by omega) (by omega), h.none⟩

set_option maxHeartbeats 1000000 in
set_option maxRecDepth 100000 in
theorem has_calls (own : Nat → Nat) (pb : Nat) (g : GeomS) (nd lb lc cap : Nat) (cur : Array Value) (qb cb : Nat → Nat) (L : Nat → List Int) (z : Int) (w : World) (h : PoolHead w own pb g nd lb lc cur qb) (hq : QsAt w own nd cap qb cb L)
    (hl : ∀ d, d < nd → (L d).length ≤ cap) (hcap : cap ≤ 4096) (hnd : nd ≤ 8) (hown : ∀ k, w.heap.size ≤ k → own k = 0) :
    Calls Tryz.prog 49 #[.pointer (some ⟨pb, 0, none⟩), .int .i64 z] w fun e w' => e = .returned (.bool (decide (z ∈ pInts L nd))) ∧ QsAt w' own nd cap qb cb L ∧ Keeps (fun b => ∃ d, d < nd ∧ b = cb d) w w' := by
  refine (callsIn_wide (n := 3)).1 ?_
  have H := hid h
  have HQ := hid hq
  have hpw := lt_of h.heap
  have hlw := lt_of h.list
  have hcbw : ∀ d, d < nd → cb d < w.heap.size := fun d hd => by obtain ⟨_, _, hx⟩ := hq d hd; exact lt_of hx.chan
  have HO := hid hown
  have HC := hid hcbw
  clear h hq hown hcbw
  refine callsIn_of_wp_marks Tryz.func49 rfl trivial ?_ rfl
  simp only [Tryz.ntmps49, List.size_toArray, List.length_cons, List.length_nil, Nat.reduceAdd, Nat.reduceSub, Array.replicate_succ, Array.replicate_zero, List.push_toArray, List.append_toArray, List.nil_append, List.cons_append]
  gi_wp2_with fail
  refine ⟨trivial, CallsIn.mono (callsIn_wide.2 (pAll_calls pb _)) ?_⟩
  rintro e w1 ⟨rfl, rfl⟩
  gi_wp2_with fail
  obtain ⟨wi, hwi⟩ : ∃ wi, ((w.alloc (.cells #[.int .i64 z] 3)).alloc (.cells #[.bool false] 4)).alloc (.cells #[.pointer (some ⟨pb, 0, none⟩)] 49) = wi := ⟨_, rfl⟩
  rw [hwi]
  have hki : Keeps (fun _ => False) w wi := by rw [← hwi]; exact (((Keeps.refl _ _).alloc _).alloc _).alloc _
  have hsi : wi.heap.size = w.heap.size + 3 := by rw [← hwi]; simp
  have hb0 : wi.heap[w.heap.size]? = some (.cells #[.int .i64 z] 3 (0, 0)) := by rw [← hwi]; exact heap_old _ _ (heap_old _ _ (heap_new _ _))
  have hb1 : wi.heap[w.heap.size + 1]? = some (.cells #[.bool false] 4 (0, 0)) := by
    rw [← hwi]; have := heap_new (w.alloc (.cells #[.int .i64 z] 3)) (.cells #[.bool false] 4); rw [World.size_alloc] at this; exact heap_old _ _ this
  have hb2 : wi.heap[w.heap.size + 2]? = some (.cells #[.pointer (some ⟨pb, 0, none⟩)] 49 (0, 0)) := by
    rw [← hwi]; have := heap_new ((w.alloc (.cells #[.int .i64 z] 3)).alloc (.cells #[.bool false] 4)) (.cells #[.pointer (some ⟨pb, 0, none⟩)] 49); rwa [World.size_alloc, World.size_alloc] at this
  refine wpIn_any rfl (wpIn_range (gf := 149) (lb := #[.pointer (some ⟨w.heap.size + 2, 0, none⟩)]) rfl (enters_of Tryz.func149 (by kernel_rfl) rfl) (pRows L nd) (fun b => ∃ d, d < nd ∧ b = cb d) (fun b => b = w.heap.size + 1)
    (fun Y => QsAt Y own nd cap qb cb L) ?hps ?hA ?hB ?hit ?hFin
    (fun k D X => D = (fun _ => False) ∧ HasInv w wi z L nd cb k false X) (fun c X => c = .ret ∧ HasInv w wi z L nd cb 0 true X ∧ z ∈ pInts L nd) (fun k a' D X => (D = (fun _ => False) ∧ HasInv w wi z L nd cb k false X) ∧ ∃ d x, (pRows L nd)[k]? = some (pRow d x) ∧ a' = { tmps := #[.pointer (some ⟨pb, 0, none⟩), .int .i64 z, undef, .pointer (some ⟨w.heap.size, 0, none⟩), .pointer (some ⟨w.heap.size + 1, 0, none⟩), undef, .int .i64 x, .pointer (some ⟨pb, 0, none⟩), .func (.func 149) #[] #[.pointer (some ⟨w.heap.size + 2, 0, none⟩)], .int .i64 d, .int .i64 x, undef, undef, undef], defers := [] })
    ?hI ?hIx ?hAx ?hD ?hDx ?h0 ?hassign ?hbody ?hdone ?hstop)
  case hps =>
    intro r hr
    obtain ⟨k, hk⟩ := List.getElem?_of_mem hr
    obtain ⟨d, x, rfl, -⟩ := pRows_int L nd k r hk
    rfl
  case hA => rintro b ⟨d, hd, rfl⟩; have := HC.out d hd; omega
  case hB => rintro b rfl; omega
  case hit =>
    intro W' hst hsz'
    have kp : ∀ {b : Nat} {o : Obj}, wi.heap[b]? = some o → W'.heap[b]? = some o := fun ho => Keeps.heap hst ho (fun h => h.elim id fun h => by have := lt_of ho; omega)
    refine pAll_iter own pb g nd lb lc cap (w.heap.size + 2) cur qb cb L _ W' ⟨H.out.mine, H.out.minel, kp (hki.heap H.out.heap fun h => h), kp (hki.heap H.out.list fun h => h), H.out.elems⟩ ?_ hl hcap hnd (kp hb2) ?_
    · intro d hd
      obtain ⟨s, r, hx⟩ := HQ.out d hd
      exact ⟨s, r, hx.mine, hx.minec, kp (hki.heap hx.heap fun h => h), kp (hki.heap hx.chan fun h => h)⟩
    · rintro b rfl; exact ⟨by omega, by omega, HO.out _ (by omega)⟩
  case hFin =>
    intro X Y hx hst d hd
    obtain ⟨s, r, hx⟩ := hx d hd
    obtain ⟨_, _, h0⟩ := HQ.out d hd
    have h1 := lt_of h0.heap
    have h2 := lt_of h0.chan
    exact ⟨s, r, hx.keeps hst (fun h => h.elim id fun h => by omega) (fun h => h.elim id fun h => by omega)⟩
  case hI => rintro k D X Y ⟨h1, h2⟩ hst; exact ⟨h1, h2.step hst hsi HC.out⟩
  case hIx => rintro c X Y ⟨h1, h2, h3⟩ hst; exact ⟨h1, h2.step hst hsi HC.out, h3⟩
  case hAx => rintro k a' D X Y ⟨⟨h1, h2⟩, h3⟩ hst; exact ⟨⟨h1, h2.step hst hsi HC.out⟩, h3⟩
  case hD => rintro k D X ⟨h1, -⟩ b hb; rw [h1] at hb; exact hb.elim
  case hDx => rintro k a' D X ⟨⟨h1, -⟩, -⟩ b hb; rw [h1] at hb; exact hb.elim
  case h0 => exact ⟨rfl, hki.mono (fun _ _ h => h.elim), Nat.le_refl _, hb0, hb1, by simp⟩
  case hassign =>
    intro l k D r X K hr hsz2 hi hK
    obtain ⟨d, x, rfl, -⟩ := pRows_int L nd k r hr
    have HK := hid hK
    have HII := hid hi
    have HR := hid hr
    clear hK hi hr
    unfold pRow
    gi_wp2
    exact HK.out _ D _ ⟨Keeps.refl _ _, fun b hb => .inl hb⟩ ⟨HII.out, d, x, HR.out, rfl⟩
  case hbody =>
    rintro l k a' D X hk hlw2 hsz2 hlr ⟨⟨hD, hp⟩, d, x, hr, rfl⟩
    obtain ⟨d', x', he, hx⟩ := pRows_int L nd k _ hr
    have hxx : x' = x := by simp [pRow] at he; exact he.2.symm
    subst hxx
    have hcz := cell_of hp.zbox 0
    have hcr := cell_of hp.rbox 0
    have hfr := free_of hp.rbox 0
    simp at hcz hcr
    have HP := hid hp
    have HX := hid hx
    have HD := hid hD
    clear hp hx hD hr he
    by_cases hxz : x' = z
    · have hb : (x' == z) = true := by simpa using hxz
      gi_wp2
      refine ⟨fun _ => False, ⟨(Keeps.refl _ _).setCell (fun _ => .inl rfl) _, fun _ h => h.elim⟩, rfl, ⟨?_, ?_, ?_, ?_, by simp⟩, ?_⟩
      · exact HP.out.keeps.trans' (N := fun b => b = w.heap.size + 1) (Keeps.setCell (M := fun b => b = w.heap.size + 1) (Keeps.refl _ _) (fun _ => rfl) _) fun i hi h => by omega
      · have := HP.out.size; simp; omega
      · rw [heap_set_ne _ _ (by omega)]; exact HP.out.zbox
      · exact heap_set HP.out.rbox 0 (.bool true)
      · rw [← hxz]; exact List.mem_of_getElem? HX.out
    · have hb : (x' == z) = false := by simpa using hxz
      gi_wp2
      refine ⟨D, ⟨Keeps.refl _ _, fun _ h => .inl h⟩, HD.out, ⟨HP.out.keeps, HP.out.size, HP.out.zbox, HP.out.rbox, ?_⟩⟩
      intro hm
      obtain ⟨hk', hx'⟩ := List.getElem?_eq_some_iff.1 HX.out
      rw [List.take_succ_eq_append_getElem hk', List.mem_append] at hm
      rcases hm with hm | hm
      · exact HP.out.none hm
      · rw [List.mem_singleton, hx'] at hm; exact hxz hm.symm
  case hdone =>
    rintro D Y hfin ⟨-, hp⟩ hmark
    have hcr := cell_of hp.rbox 0
    have hfr := free_of hp.rbox 0
    simp at hcr
    have HP := hid hp
    have HF := hid hfin
    have HM := hid hmark
    clear hp hfin hmark
    gi_wp2
    have hrb := heap_set HP.out.rbox 0 (.bool false)
    have hmk : (Y.setCell ⟨w.heap.size + 1, 0, none⟩ (.bool false)).heap[wi.heap.size]? = some (.deferred (some [])) := by rw [heap_set_ne _ _ (by omega)]; exact HM.out
    have hrc := cell_of (heap_put_ne (r := wi.heap.size) (o := .deferred none) hrb (by omega)) 0
    simp at hrc
    refine leaves_mark hmk (.bool false) (by simp [results, Tryz.results49, go_sem, hrc]) ⟨?_, ?_, ?_⟩
    · have hn := HP.out.none
      rw [List.take_of_length_le (by rw [pRows_len]; exact Nat.le_refl _)] at hn
      simp [hn]
    · intro d hd
      obtain ⟨s, r, hx⟩ := HF.out d hd
      obtain ⟨_, _, h0⟩ := HQ.out d hd
      have h1 := lt_of h0.heap
      have h2 := lt_of h0.chan
      exact ⟨s, r, hx.keeps (M := fun b => w.heap.size ≤ b) (keeps_put' (Keeps.setCell (M := fun b => w.heap.size ≤ b) (Keeps.refl _ _) (fun _ => by simp) _) (fun _ => by omega) _) (by omega) (by omega)⟩
    · exact keeps_put (HP.out.keeps.trans' (N := fun b => b = w.heap.size + 1) (Keeps.setCell (M := fun b => b = w.heap.size + 1) (Keeps.refl _ _) (fun _ => rfl) _) fun i hi h => by omega) (by omega) _
  case hstop =>
    rintro c Y hfin ⟨rfl, hp, hz⟩ hmark
    have HP := hid hp
    have HF := hid hfin
    have HM := hid hmark
    have HZ := hid hz
    clear hp hfin hmark hz
    gi_wp2
    have hrc := cell_of (heap_put_ne (r := wi.heap.size) (o := .deferred none) HP.out.rbox (by omega)) 0
    simp at hrc
    refine leaves_mark HM.out (.bool true) (by simp [results, Tryz.results49, go_sem, hrc]) ⟨by simp [HZ.out], ?_, keeps_put HP.out.keeps (by omega) _⟩
    intro d hd
    obtain ⟨s, r, hx⟩ := HF.out d hd
    obtain ⟨_, _, h0⟩ := HQ.out d hd
    have h1 := lt_of h0.heap
    have h2 := lt_of h0.chan
    exact ⟨s, r, hx.keeps (M := fun b => w.heap.size ≤ b) (keeps_put' (Keeps.refl _ _) (fun _ => by omega) _) (by omega) (by omega)⟩
end Go.Rv
