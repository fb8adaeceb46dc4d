/- PostsOwns: rows of postings and rows of lists, kept and changed. -/
import Derived.Test.YthnpbfadblcicaaDoorZPoP
namespace Go.Proofs.YthnpbfadblcicaaDoor
set_option linter.unusedVariables false
open Go.ChangeShapes Go.WideShapes Go.ChangeAt Go.RowKit

theorem own_typed9 {w : World} {B : Nat} {t : TypeId} {v : Value} {xs : List Value} (h : Own w B t v xs) {k : Nat} (hk : v.ownBlock = some k) : ∃ cs fr, w.heap[k]? = some (.cells cs t fr) := by
  rcases h with ⟨rfl, _⟩ | ⟨g, cap, cur, rfl, _, hh, _⟩
  · simp [Value.ownBlock] at hk
  · have e : g = k := by simpa [Value.ownBlock] using hk
    subst e
    exact ⟨_, _, hh⟩
theorem row_typed9 {w : World} {B n : Nat} {t : TypeId} {s : Nat} {v : Value} {xs : List Value} (h : w.ownsRow B t s v n xs) {k : Nat} (hk : v.ownBlock = some k) : ∃ cs fr, w.heap[k]? = some (.cells cs t fr) := by
  rcases h.2 with ⟨rfl, _⟩ | ⟨g, cap, cur, rfl, _, hh, _⟩
  · simp [Value.ownBlock] at hk
  · have e : g = k := by simpa [Value.ownBlock] using hk
    subst e
    exact ⟨_, _, hh⟩
theorem kept_types9 {w : World} {b b' : Nat} {e e' : TypeId} {v v' : Value} {xs xs' : List Value} (h : Own w b e v xs) (h' : Own w b' e' v' xs') (hne : e ≠ e') : v.ownBlock = none ∨ v.ownBlock ≠ v'.ownBlock := by
  cases hb : v.ownBlock with
  | none => exact .inl rfl
  | some q => exact .inr (fun e9 => own_types h h' hne hb e9.symm)
theorem range_app {α : Type} (N n : Nat) (f g : Nat → α) : (List.range (N + n)).map (fun k => if k < N then f k else g (k - N)) = (List.range N).map f ++ (List.range n).map g := by
  refine List.ext_getElem (by simp) (fun k h1 h2 => ?_)
  simp only [List.getElem_map, List.getElem_range]
  by_cases e : k < N
  · rw [if_pos e, List.getElem_append_left (by simpa using e)]; simp
  · rw [if_neg e, List.getElem_append_right (by simp; omega)]; simp
/-- A row of lists, each of own. -/
structure KpP (wr : World) (B N : Nat) (v : Value) (vs : Nat → Value) (ys : Nat → List Int) : Prop where
  top : Own wr B 51 v ((List.range N).map vs)
  ow : OwnLI wr B N vs ys
theorem OwnLI.eff9 {F : Nat → Prop} {wr w' : World} {B N : Nat} {vs : Nat → Value} {ys : Nat → List Int} (h : OwnLI wr B N vs ys) (e : Eff F wr w') (hF : ∀ k, F k → ∃ cs t fr, wr.heap[k]? = some (.cells cs t fr) ∧ 3 ≠ t) : OwnLI w' B N vs ys :=
  ⟨fun k hk => (h.own k hk).eff e (fun b hb f => by
    obtain ⟨cs, t, fr, h1, h2⟩ := hF b f
    exact (h.own k hk).ne_type h1 h2 hb), h.sep⟩
theorem OwnLI.below9 {wr w' : World} {B N B' : Nat} {vs : Nat → Value} {ys : Nat → List Int} (h : OwnLI wr B N vs ys) (hb : Below B' wr w') (hB : wr.heap.size ≤ B') : OwnLI w' B N vs ys :=
  ⟨fun k hk => (h.own k hk).below hb hB, h.sep⟩
theorem KpP.below {wr w' : World} {B N B' : Nat} {v : Value} {vs : Nat → Value} {ys : Nat → List Int} (h : KpP wr B N v vs ys) (hb : Below B' wr w') (hB : wr.heap.size ≤ B') : KpP w' B N v vs ys :=
  ⟨h.top.below hb hB, h.ow.below9 hb hB⟩
theorem KpP.empty (w : World) (B : Nat) (hB : B ≤ w.heap.size) (vs : Nat → Value) (ys : Nat → List Int) : KpP (w.alloc (.cells #[] 51)) B 0 (.slice (some ⟨w.heap.size, 0, none⟩) 0 0) vs ys :=
  ⟨own_empty w B 51 hB, ⟨fun k hk => absurd hk (Nat.not_lt_zero _), fun k l b hk => absurd hk (Nat.not_lt_zero _)⟩⟩
theorem OwnLI.cut9 {w : World} {B N : Nat} {vs : Nat → Value} {ys : Nat → List Int} (h : OwnLI w B N vs ys) : OwnLI w B N vs (fun k => if k < N then ys k else []) :=
  ⟨fun k hk => by simp only [if_pos hk]; exact h.own k hk, h.sep⟩
/-- Lists behind lists. -/
theorem OwnLI.join {w : World} {B N n : Nat} {vs us : Nat → Value} {ys zs : Nat → List Int} (h : OwnLI w B N vs ys) (h2 : OwnLI w B n us zs) (hs : ∀ k l b, k < N → l < n → (vs k).ownBlock = some b → (us l).ownBlock ≠ some b) :
    OwnLI w B (N + n) (fun k => if k < N then vs k else us (k - N)) (fun k => if k < N then ys k else zs (k - N)) := by
  refine ⟨fun k hk => ?_, fun k l b hk hl hkl hb => ?_⟩
  · by_cases e : k < N
    · simp only [if_pos e]; exact h.own k e
    · simp only [if_neg e]; exact h2.own (k - N) (by omega)
  · by_cases e : k < N
    · simp only [if_pos e] at hb
      by_cases e2 : l < N
      · simp only [if_pos e2]; exact h.sep k l b e e2 hkl hb
      · simp only [if_neg e2]; exact hs k (l - N) b e (by omega) hb
    · simp only [if_neg e] at hb
      by_cases e2 : l < N
      · simp only [if_pos e2]; exact fun h9 => hs l (k - N) b e2 (by omega) h9 hb
      · simp only [if_neg e2]; exact h2.sep _ _ b (by omega) (by omega) (by omega) hb
theorem KpP.pushN {wr w' : World} {B N n : Nat} {v v' : Value} {vs us : Nat → Value} {ys zs : Nat → List Int} (h : KpP wr B N v vs ys) (h2 : OwnLI wr B n us zs) (hs : ∀ k l b, k < N → l < n → (vs k).ownBlock = some b → (us l).ownBlock ≠ some b)
    (h1 : Own w' B 51 v' ((List.range N).map vs ++ (List.range n).map us)) (hg : wr.grownBy w' v.ownBlock) : KpP w' B (N + n) v' (fun k => if k < N then vs k else us (k - N)) (fun k => if k < N then ys k else zs (k - N)) := by
  refine ⟨by rw [range_app]; exact h1, (h.ow.join h2 hs).eff9 ((Eff.refl (fun q => v.ownBlock = some q) wr).grown hg (fun q hq _ => hq)) (fun k hk => ?_)⟩
  obtain ⟨cs, fr, h9⟩ := own_typed9 h.top hk
  exact ⟨cs, _, fr, h9, by decide⟩
/-- The lists of positions of postings of own. -/
theorem RowP.lists {w : World} {B : Nat} {v : Value} {ps : List PostV} {vs : Nat → Value} (h : RowP w B v ps vs) : OwnLI w B ps.length vs (fun k => (ps.getD k pz).pos) :=
  ⟨fun k hk => by simp only [getD_at ps pz hk]; exact h.own k hk, h.sep⟩
set_option maxRecDepth 100000 in
/-- A posting put behind a row, which keeps its block or gets a new one. -/
theorem run_apRow {w : World} {base g n cap : Nat} {xs : List Value} (ty : TypeId) (hown : w.ownsRow base 53 2 (.slice (some ⟨g, 0, none⟩) n cap) n xs) (b c : Nat) (x y : Value) (hx : w.cell? ⟨b, 0, none⟩ = some x) (hy : w.cell? ⟨b, 1, none⟩ = some y) (h1 : x.oneCell' = true) (h2 : y.oneCell' = true)
    (hn : n ≤ 1000000000) (hbase : base ≤ w.heap.size) :
    ∃ v' w', (Builtin.append_ #[22, 22] ty #[.slice (some ⟨g, 0, none⟩) n cap, .slice (some ⟨b, 0, none⟩) 1 c]).run Tryd.prog w = .ok v' w' ∧ w'.ownsRow base 53 2 v' (n + 1) (xs ++ [x, y]) ∧ w.grownBy w' (some g) ∧ (v'.ownBlock = some g ∨ v'.ownBlock = some w.heap.size) := by
  obtain ⟨i0, hi, hrest⟩ := Option.map_eq_some_iff.1 post_info2
  simp only [Prod.mk.injEq] at hrest
  obtain ⟨h8, hby, hz⟩ := hrest
  obtain ⟨z, hz, hzs⟩ := Option.map_eq_some_iff.1 hz
  have hnews : ∀ j u, [x, y][j]? = some u → w.cell? ((⟨b, 0, none⟩ : Addr).add j) = some u := fun j u hu => by
    rw [addr_add, Nat.zero_add]
    match j, hu with
    | 0, hu => injection hu with hu; subst hu; exact hx
    | 1, hu => injection hu with hu; subst hu; exact hy
  have hone : ∀ u ∈ [x, y], u.oneCell' = true := fun u hu => by
    simp only [List.mem_cons, List.not_mem_nil, or_false] at hu
    rcases hu with rfl | rfl
    · exact h1
    · exact h2
  by_cases hroom : n + 1 ≤ cap
  · obtain ⟨w', k1, k2, k3⟩ := run_append_fits (P := Tryd.prog) w base 22 ty 53 i0 2 Tryd.underlying22 hi h8 g n cap xs hown ⟨b, 0, none⟩ 1 c [x, y] rfl hnews hone hroom
    exact ⟨_, w', k1, k2, k3, .inl rfl⟩
  · obtain ⟨v', w', k1, k2, k3, _⟩ := run_append_own (P := Tryd.prog) w base 22 ty 53 i0 z 2 32 Tryd.underlying22 hi hz h8 hby hzs (by decide) _ n xs hown ⟨b, 0, none⟩ 1 c [x, y] rfl hnews hone (by unfold maxLen; omega) (by omega) hbase
    have hr := run_append_grow (P := Tryd.prog) w 22 ty 53 i0 z Tryd.underlying22 hi hz ⟨g, 0, none⟩ n cap xs (by rw [h8]; exact hown.1) (fun j u hu => World.ownsRow.cells hown (g := g) rfl j u hu) ⟨b, 0, none⟩ 1 c [x, y] (by rw [h8]; rfl) hnews (by omega) (by omega) (by rw [hby]; exact growslice_fits (by omega) (by omega))
    rw [k1] at hr
    injection hr with e1 e2
    exact ⟨v', w', k1, k2, k3, .inr (by rw [e1]; rfl)⟩
/-- Rows of postings of which only the documents count: of row q the first lim q say -q-1. -/
structure BkS (wr : World) (B m : Nat) (bv : Value) (V : Nat → Value) (n lim : Nat → Nat) : Prop where
  top : Own wr B 22 bv ((List.range m).map V)
  row : ∀ q, q < m → ∃ xs, wr.ownsRow B 53 2 (V q) (n q) xs ∧ lim q ≤ n q ∧ ∀ t, t < lim q → xs[2 * t]? = some (.int .i64 (-(q : Int) - 1))
  sep : ∀ q l b, q < m → l < m → q ≠ l → (V q).ownBlock = some b → (V l).ownBlock ≠ some b
theorem BkS.empty (w : World) (B : Nat) (hB : B ≤ w.heap.size) (V : Nat → Value) (n lim : Nat → Nat) : BkS (w.alloc (.cells #[] 22)) B 0 (.slice (some ⟨w.heap.size, 0, none⟩) 0 0) V n lim :=
  ⟨own_empty w B 22 hB, fun q hq => absurd hq (Nat.not_lt_zero _), fun q l b hq => absurd hq (Nat.not_lt_zero _)⟩
theorem BkS.lims {wr : World} {B m : Nat} {bv : Value} {V : Nat → Value} {n lim lim' : Nat → Nat} (h : BkS wr B m bv V n lim) (hl : ∀ q, q < m → lim' q ≤ lim q) : BkS wr B m bv V n lim' :=
  ⟨h.top, fun q hq => by
    obtain ⟨xs, h1, h2, h3⟩ := h.row q hq
    exact ⟨xs, h1, Nat.le_trans (hl q hq) h2, fun t ht => h3 t (Nat.lt_of_lt_of_le ht (hl q hq))⟩, h.sep⟩
/-- Under changes of blocks of other types. -/
theorem BkS.eff {F : Nat → Prop} {wr w' : World} {B m : Nat} {bv : Value} {V : Nat → Value} {n lim : Nat → Nat} (h : BkS wr B m bv V n lim) (e : Eff F wr w') (hF : ∀ k, F k → ∃ cs t fr, wr.heap[k]? = some (.cells cs t fr) ∧ 22 ≠ t ∧ 53 ≠ t) : BkS w' B m bv V n lim :=
  ⟨h.top.eff e (fun k hk f => by
    obtain ⟨cs, t, fr, h1, h2, _⟩ := hF k f
    exact h.top.ne_type h1 h2 hk), fun q hq => by
    obtain ⟨xs, h1, h2⟩ := h.row q hq
    exact ⟨xs, row_eff h1 e (fun k hk f => by
      obtain ⟨cs, t, fr, g1, _, g2⟩ := hF k f
      exact row_ne_type h1 g1 g2 hk), h2⟩, h.sep⟩
theorem BkS.below {wr w' : World} {B B' m : Nat} {bv : Value} {V : Nat → Value} {n lim : Nat → Nat} (h : BkS wr B m bv V n lim) (hb : Below B' wr w') (hB : wr.heap.size ≤ B') : BkS w' B m bv V n lim := by
  have e : Eff (fun k => B' ≤ k) wr w' := ⟨hb.os, hb.tape, hb.output, hb.size, fun k hk hn => hb.block k (by omega)⟩
  refine ⟨h.top.below hb hB, fun q hq => ?_, h.sep⟩
  obtain ⟨xs, h1, h2⟩ := h.row q hq
  exact ⟨xs, row_eff h1 e (fun k hk f => by have := (World.ownsRow.lt h1 k hk).2; omega), h2⟩
/-- One row more. -/
theorem BkS.push {wr w' : World} {B m : Nat} {bv bv' : Value} {V : Nat → Value} {n : Nat → Nat} (h : BkS wr B m bv V n (fun _ => 0)) {v : Value} {xs : List Value} {k : Nat} (hr : wr.ownsRow B 53 2 v k xs) (hk : n m = k) (hs : ∀ q b, q < m → (V q).ownBlock = some b → v.ownBlock ≠ some b)
    (h1 : Own w' B 22 bv' ((List.range m).map V ++ [v])) (hg : wr.grownBy w' bv.ownBlock) : BkS w' B (m + 1) bv' (fun q => if q < m then V q else v) n (fun _ => 0) := by
  have e : Eff (fun q => bv.ownBlock = some q) wr w' := (Eff.refl _ wr).grown hg (fun q hq _ => hq)
  have hrow : ∀ {u : Value} {j : Nat} {ys : List Value}, wr.ownsRow B 53 2 u j ys → w'.ownsRow B 53 2 u j ys := fun ho => row_eff ho e (fun q hq f => row_ne_own ho h.top (by decide) hq f)
  refine ⟨?_, fun q hq => ?_, fun q l b hq hl hql hb => ?_⟩
  · have e9 := range_app m 1 V (fun _ => v)
    rw [List.range_one] at e9
    rw [e9]; exact h1
  · by_cases e2 : q < m
    · obtain ⟨ys, g1, g2⟩ := h.row q e2
      simp only [if_pos e2]
      exact ⟨ys, hrow g1, g2⟩
    · obtain rfl : q = m := by omega
      simp only [if_neg e2]
      rw [hk]
      exact ⟨xs, hrow hr, Nat.zero_le _, fun t ht => absurd ht (Nat.not_lt_zero _)⟩
  · by_cases e1 : q < m
    · simp only [if_pos e1] at hb
      by_cases e2 : l < m
      · simp only [if_pos e2]; exact h.sep q l b e1 e2 hql hb
      · simp only [if_neg e2]; exact hs q b e1 hb
    · simp only [if_neg e1] at hb
      by_cases e2 : l < m
      · simp only [if_pos e2]; exact fun h9 => hs l b e2 h9 hb
      · omega
/-- A document told. -/
theorem BkS.set {wr : World} {B m : Nat} {bv : Value} {V : Nat → Value} {n lim : Nat → Nat} (h : BkS wr B m bv V n lim) {q g k c : Nat} (hq : q < m) (hv : V q = .slice (some ⟨g, 0, none⟩) k c) (hj : lim q < n q) :
    BkS (wr.setCell ⟨g, 2 * lim q, none⟩ (.int .i64 (-(q : Int) - 1))) B m bv V n (fun r => if r = q then lim q + 1 else lim r) := by
  obtain ⟨xs, h1, h2, h3⟩ := h.row q hq
  rw [hv] at h1
  have hk : k = n q := by
    rcases h1.2 with ⟨e, _⟩ | ⟨g', cap, cur, e, _⟩
    · injection e with e; cases e
    · injection e
  subst hk
  have hg : (V q).ownBlock = some g := by rw [hv]; rfl
  refine ⟨h.top.setOther (p := ⟨g, 2 * lim q, none⟩) (fun h9 => row_ne_own h1 h.top (by decide) rfl h9) _, fun r hr => ?_, h.sep⟩
  by_cases e : r = q
  · subst e
    have g1 := (World.ownsRow.stored h1 (2 * lim r) (.int .i64 (-(r : Int) - 1))).1
    rw [hv]
    simp only [if_true]
    refine ⟨_, g1, hj, fun t ht => ?_⟩
    by_cases e : t = lim r
    · subst e
      rw [List.getElem?_set_self (by rw [h1.1]; omega)]
    · rw [List.getElem?_set_ne (by omega)]
      exact h3 t (by omega)
  · obtain ⟨ys, g1, g2, g3⟩ := h.row r hr
    simp only [if_neg e]
    exact ⟨ys, row_eff g1 (Eff.setCell (F := fun i => i = g) (Eff.refl _ wr) (p := ⟨g, 2 * lim q, none⟩) (fun _ => rfl) _) (fun i hi e9 => h.sep q r g hq hr (fun e8 => e e8.symm) hg (e9 ▸ hi)), g2, g3⟩
/-- A row's cells. -/
theorem BkS.at_ {wr : World} {B m : Nat} {bv : Value} {V : Nat → Value} {n lim : Nat → Nat} (h : BkS wr B m bv V n lim) {q : Nat} (hq : q < m) : ∃ a c, V q = .slice a (n q) c ∧ (0 < n q → ∃ g, a = some ⟨g, 0, none⟩ ∧ (∀ j, wr.frozen? ⟨g, j, none⟩ = false) ∧ (∀ t, t < n q → ∃ u, wr.cell? ⟨g, 2 * t, none⟩ = some u) ∧ ∀ t, t < lim q → wr.cell? ⟨g, 2 * t, none⟩ = some (.int .i64 (-(q : Int) - 1))) := by
  obtain ⟨xs, h1, h2, h3⟩ := h.row q hq
  rcases h1.2 with ⟨e, h0⟩ | ⟨g, cap, cur, e, _, hg, _⟩
  · exact ⟨none, 0, by rw [e, h0], fun h9 => by omega⟩
  · refine ⟨_, _, e, fun _ => ⟨g, rfl, fun j => blk_frozen hg j, fun t ht => ?_, fun t ht => ?_⟩⟩
    · have hl := h1.1
      have h9 := World.ownsRow.cells h1 (g := g) (by rw [e]; rfl) (2 * t) _ (List.getElem?_eq_getElem (by omega))
      rw [addr_add, Nat.zero_add] at h9
      exact ⟨_, h9⟩
    have h9 := World.ownsRow.cells h1 (g := g) (by rw [e]; rfl) (2 * t) _ (h3 t ht)
    rw [addr_add, Nat.zero_add] at h9
    exact h9
theorem range_set {α : Type} (m i : Nat) (V : Nat → α) (x : α) (hi : i < m) : ((List.range m).map V).set i x = (List.range m).map fun q => if q = i then x else V q := by
  refine List.ext_getElem (by simp) (fun k h1 h2 => ?_)
  by_cases e : i = k
  · subst e; simp
  · rw [List.getElem_set_ne e]
    simp only [List.getElem_map, List.getElem_range, if_neg (fun e9 : k = i => e e9.symm)]
/-- A slice of n. -/
def SlN (v : Value) (n : Nat) : Prop := ∃ A C, v = .slice A n C
set_option maxRecDepth 100000 in
/-- A posting put behind row i, the row written back. -/
theorem apBk {w0 : World} {B m g gt k c nt ct : Nat} {V : Nat → Value} {n lim : Nat → Nat} (h : BkS w0 B m (.slice (some ⟨gt, 0, none⟩) nt ct) V n lim) {i : Nat} (hi : i < m) (hv : V i = .slice (some ⟨g, 0, none⟩) k c) (hlim : lim i = n i) (hn : n i ≤ 1000000000) (hB : B ≤ w0.heap.size)
    {ops : Array Oper} {rest : List Oper} {o : Oper} {a : Act} {Q : Exit → Act → World → Prop} (hgd : o.guard = none) (x y : Operand)
    (ho : o.op = .call { callee := .builtin .append, args := #[x, y], argTypes := #[22, 22] }) (hx : a.eval x = .slice (some ⟨g, 0, none⟩) k c) (hy : a.eval y = .slice (some ⟨w0.heap.size, 0, none⟩) 1 1)
    (hh : ∀ v' w', SlN v' (n i + 1) → BkS (w'.setCell ⟨gt, i, none⟩ v') B m (.slice (some ⟨gt, 0, none⟩) nt ct) (fun q => if q = i then v' else V q) (fun q => if q = i then n i + 1 else n q) (fun q => if q = i then n i + 1 else lim q) →
      w'.cell? ⟨gt, i, none⟩ = some (V i) → w'.frozen? ⟨gt, i, none⟩ = false → w0.grownBy w' (some g) → wpList Tryd.prog ops Q rest (a.put o.dst v') w') :
    wpList Tryd.prog ops Q (o :: rest) a (w0.alloc (.cells #[.int .i64 (-(i : Int) - 1), .slice none 0 0] 53)) :=
  wpList_plain hgd fun _ hK => by
    obtain ⟨xs, g1, g2, g3⟩ := h.row i hi
    have hVg : (V i).ownBlock = some g := by rw [hv]; rfl
    have hgl := World.ownsRow.lt g1 g hVg
    rw [hv] at g1
    have hk : k = n i := by
      rcases g1.2 with ⟨e, _⟩ | ⟨g', cap, cur, e, _⟩
      · injection e with e; cases e
      · injection e
    subst hk
    have hnew := heap_alloc_new w0 (.cells #[.int .i64 (-(i : Int) - 1), .slice none 0 0] 53)
    obtain ⟨v', w', k1, k2, k3, k4⟩ := run_apRow o.type (g1.alloc (.cells #[.int .i64 (-(i : Int) - 1), .slice none 0 0] 53)) w0.heap.size 1 _ _ (blk_cell hnew 0) (blk_cell hnew 1) rfl rfl hn (by simp; omega)
    have hgr : w0.grownBy w' (some g) := ⟨k3.os, k3.tape, k3.output, Nat.le_trans (by simp) k3.size, fun q hq hne => (k3.block q (by simp; omega) hne).trans (Below.heap_alloc _ _ _ hq)⟩
    have e : Eff (fun q => q = g) w0 w' := (Eff.refl _ w0).grown hgr (fun q hq _ => by injection hq with hq; exact hq.symm)
    have htop : Own w' B 22 (.slice (some ⟨gt, 0, none⟩) nt ct) ((List.range m).map V) := h.top.eff e (fun q hq e9 => by subst e9; exact row_ne_own g1 h.top (by decide) rfl hq)
    have hsl : ∃ A C, v' = .slice A (n i + 1) C := by
      rcases k2.2 with ⟨_, e⟩ | ⟨g', cap, cur, e, _⟩
      · omega
      · exact ⟨_, _, e⟩
    have hset : ∀ {u : Value} {j : Nat} {ys : List Value}, w'.ownsRow B 53 2 u j ys → (w'.setCell ⟨gt, i, none⟩ v').ownsRow B 53 2 u j ys := fun hu => row_eff hu (Eff.setCell (F := fun q => q = gt) (Eff.refl _ w') (p := ⟨gt, i, none⟩) (fun _ => rfl) _) (fun q hq e9 => by subst e9; exact row_ne_own hu htop (by decide) hq rfl)
    have hlr : (xs ++ [Value.int .i64 (-(i : Int) - 1), .slice none 0 0]).length = (n i + 1) * 2 := k2.1
    have hfin : BkS (w'.setCell ⟨gt, i, none⟩ v') B m (.slice (some ⟨gt, 0, none⟩) nt ct) (fun q => if q = i then v' else V q) (fun q => if q = i then n i + 1 else n q) (fun q => if q = i then n i + 1 else lim q) := by
      refine ⟨?_, fun q hq => ?_, fun q l b hq hl hql hb => ?_⟩
      · have h9 := htop.set i v'
        rw [range_set m i V v' hi] at h9
        exact h9
      · by_cases e9 : q = i
        · subst e9
          simp only [if_true]
          refine ⟨_, hset k2, Nat.le_refl _, fun t ht => ?_⟩
          by_cases e8 : t = n q
          · subst e8
            rw [List.getElem?_append_right (by rw [g1.1]; omega), g1.1, show 2 * n q - n q * 2 = 0 by omega]
            rfl
          · rw [List.getElem?_append_left (by rw [g1.1]; omega)]
            exact g3 t (by omega)
        · simp only [if_neg e9]
          obtain ⟨ys, m1, m2⟩ := h.row q hq
          exact ⟨ys, hset (row_eff m1 e (fun b hb e8 => by subst e8; exact h.sep q i b hq hi e9 hb hVg)), m2⟩
      · have hother : ∀ r b, r < m → r ≠ i → (V r).ownBlock = some b → v'.ownBlock ≠ some b := fun r b hr hri hb h9 => by
          rcases k4 with k4 | k4
          · rw [k4] at h9
            injection h9 with h9
            subst h9
            exact h.sep r i g hr hi hri hb hVg
          · rw [k4] at h9
            injection h9 with h9
            obtain ⟨ys, m1, _⟩ := h.row r hr
            have := (World.ownsRow.lt m1 b hb).2
            simp at h9
            omega
        by_cases e1 : q = i
        · simp only [if_pos e1] at hb
          simp only [if_neg (fun e9 : l = i => hql (e1.trans e9.symm))]
          exact fun h9 => hother l b hl (fun e9 => hql (e1.trans e9.symm)) h9 hb
        · simp only [if_neg e1] at hb
          by_cases e2 : l = i
          · simp only [if_pos e2]; exact hother q b hq e1 hb
          · simp only [if_neg e2]; exact h.sep q l b hq hl hql hb
    unfold Oper.wp execOp
    simp only [ho, resolve, invoke, builtin, Sem.run_bind, Sem.run_pure, Result.andThen_ok, List.map_toArray, List.map_cons, List.map_nil, hx, hy, k1]
    refine hK _ _ (hh v' w' hsl hfin (htop.get (by simp [hi])) (htop.frozen i) hgr)
theorem RowP.congr {w : World} {B : Nat} {v : Value} {ps : List PostV} {vs us : Nat → Value} (h : RowP w B v ps vs) (he : ∀ k, k < ps.length → vs k = us k) : RowP w B v ps us := by
  have hp : pcells ps vs = pcells ps us := by
    unfold pcells
    refine List.map_congr_left fun j hj => ?_
    have hj := List.mem_range.1 hj
    split
    · rfl
    · exact he _ (by omega)
  refine ⟨by rw [← hp]; exact h.row, fun k hk => by rw [← he k hk]; exact h.own k hk, fun k l b hk hl hkl hb => ?_⟩
  rw [← he k hk] at hb
  rw [← he l hl]
  exact h.sep k l b hk hl hkl hb
def pp (ps : List PostV) (k : Nat) : List Int := (ps.getD k pz).pos
theorem pp_at {ps : List PostV} {k : Nat} (h : k < ps.length) : pp ps k = ps[k].pos := by unfold pp; rw [getD_at ps pz h]
/-- The law's room and the wholes: postings whose lists lie in wholes with eighty places of room. -/
structure RmS (w wr : World) (B i : Nat) (rv fv : Value) (A : Nat → Option Addr) (C : Nat → Nat) (ps : List PostV) : Prop where
  row : RowP wr B rv (ps.take i) (fun k => .slice (A k) (pp ps k).length (C k))
  full : Own wr B 51 fv ((List.range i).map fun k => .slice (A k) ((pp ps k).length + 80) (C k))
  ow : OwnLI wr B i (fun k => .slice (A k) ((pp ps k).length + 80) (C k)) (fun k => pp ps k ++ marksI 7 0 80)
  bel : Below B w wr
theorem RmS.below {w wr w' : World} {B i : Nat} {rv fv : Value} {A : Nat → Option Addr} {C : Nat → Nat} {ps : List PostV} (h : RmS w wr B i rv fv A C ps) (hb : Below wr.heap.size wr w') (hB : B ≤ wr.heap.size) : RmS w w' B i rv fv A C ps :=
  ⟨h.row.below hb (Nat.le_refl _), h.full.below hb (Nat.le_refl _), h.ow.below9 hb (Nat.le_refl _), h.bel.trans (hb.mono hB)⟩
/-- One posting more. -/
theorem RmS.push {w w1 w2 w3 : World} {B i : Nat} {rv fv rv' fv' : Value} {A : Nat → Option Addr} {C : Nat → Nat} {ps : List PostV} (h : RmS w w1 B i rv fv A C ps) (hi : i < ps.length) {A' : Option Addr} {C' N : Nat} (hw : Own w1 N 3 (.slice A' (ps[i].pos.length + 80) C') (intL (ps[i].pos ++ marksI 7 0 80))) (hB : B ≤ N)
    (hfar : ∀ k b, k < i → (Value.slice (A k) ((pp ps k).length + 80) (C k)).ownBlock = some b → b < N) (hz : B ≤ w1.heap.size) (hz2 : B ≤ w2.heap.size)
    (h2 : RowP w2 B rv' (ps.take i ++ [⟨ps[i].doc, ps[i].pos⟩]) (fun k => if k < (ps.take i).length then .slice (A k) (pp ps k).length (C k) else .slice A' ps[i].pos.length C')) (g2 : w1.grownBy w2 rv.ownBlock)
    (h3 : Own w3 B 51 fv' (((List.range i).map fun k => Value.slice (A k) ((pp ps k).length + 80) (C k)) ++ [.slice A' (ps[i].pos.length + 80) C'])) (g3 : w2.grownBy w3 fv.ownBlock) :
    RmS w w3 B (i + 1) rv' fv' (fun k => if k < i then A k else A') (fun k => if k < i then C k else C') ps := by
  have hl : (ps.take i).length = i := by rw [List.length_take]; omega
  have e12 : Eff (fun q => rv.ownBlock = some q) w1 w2 := (Eff.refl _ w1).grown g2 (fun q hq _ => hq)
  have e23 : Eff (fun q => fv.ownBlock = some q) w2 w3 := (Eff.refl _ w2).grown g3 (fun q hq _ => hq)
  have hfull2 : Own w2 B 51 fv ((List.range i).map fun k => .slice (A k) ((pp ps k).length + 80) (C k)) := h.full.eff e12 (fun q hq f => row_ne_own h.row.row h.full (by decide) f hq)
  have hw2 := hw.eff e12 (fun q hq f => row_ne_own h.row.row hw (by decide) f hq)
  have how2 := h.ow.eff9 e12 (fun k hk => by
    obtain ⟨cs, fr, h9⟩ := row_typed9 h.row.row hk
    exact ⟨cs, _, fr, h9, by decide⟩)
  have hf23 : ∀ k, fv.ownBlock = some k → ∃ cs t fr, w2.heap[k]? = some (.cells cs t fr) ∧ 3 ≠ t := fun k hk => by
    obtain ⟨cs, fr, h9⟩ := own_typed9 hfull2 hk
    exact ⟨cs, _, fr, h9, by decide⟩
  have how3 := how2.eff9 e23 hf23
  have hw3 := hw2.eff e23 (fun q hq f => own_types hfull2 hw2 (by decide) f hq)
  refine ⟨?_, ?_, ?_, ?_⟩
  · have hr3 := h2.eff e23 (fun b hb f => by
      rcases hb with hb | ⟨k, hk, hb⟩
      · exact row_ne_own h2.row hfull2 (by decide) hb f
      · exact own_types (h2.own k hk) hfull2 (by decide) hb f)
    rw [List.take_succ_eq_append_getElem hi]
    refine hr3.congr (fun k hk => ?_)
    rw [List.length_append, hl, List.length_singleton] at hk
    simp only [hl]
    by_cases e : k < i
    · simp only [if_pos e]
    · obtain rfl : k = i := by omega
      simp only [if_neg e, pp_at hi]
  · have e9 := range_app i 1 (fun k => Value.slice (A k) ((pp ps k).length + 80) (C k)) (fun _ => Value.slice A' (ps[i].pos.length + 80) C')
    rw [List.range_one, List.map_singleton] at e9
    rw [← e9] at h3
    have e8 : ((List.range (i + 1)).map fun k => Value.slice (if k < i then A k else A') ((pp ps k).length + 80) (if k < i then C k else C')) = (List.range (i + 1)).map (fun k => if k < i then Value.slice (A k) ((pp ps k).length + 80) (C k) else Value.slice A' (ps[i].pos.length + 80) C') := by
      refine List.map_congr_left fun k hk => ?_
      have hk := List.mem_range.1 hk
      by_cases e : k < i
      · simp only [if_pos e]
      · obtain rfl : k = i := by omega
        simp only [if_neg e, pp_at hi]
    rw [e8]; exact h3
  · refine ⟨fun k hk => ?_, fun k l b hk hl2 hkl hb => ?_⟩
    · by_cases e : k < i
      · simp only [if_pos e]; exact how3.own k e
      · obtain rfl : k = i := by omega
        simp only [if_neg e, pp_at hi]
        exact own_base hw3 hB
    · by_cases e : k < i
      · simp only [if_pos e] at hb
        by_cases e2 : l < i
        · simp only [if_pos e2]; exact h.ow.sep k l b e e2 hkl hb
        · simp only [if_neg e2]
          intro h9
          have h8 := hfar k b e hb
          have h7 := (hw.lt b (by rw [← h9]; cases A' <;> rfl)).1
          omega
      · simp only [if_neg e] at hb
        have e2 : l < i := by omega
        simp only [if_pos e2]
        intro h9
        have h8 := hfar l b e2 h9
        have h7 := (hw.lt b (by rw [← hb]; cases A' <;> rfl)).1
        omega
  · exact (h.bel.grown g2 hz (fun k hk => (h.row.lt k hk).1)).grown g3 hz2 (fun k hk => (hfull2.lt k hk).1)
/-- A row's block and cells. -/
theorem row_at9 {w : World} {B n : Nat} {v : Value} {xs : List Value} (h : w.ownsRow B 53 2 v n xs) : ∃ a c, v = .slice a n c ∧ n ≤ c ∧ (0 < n → ∃ g, a = some ⟨g, 0, none⟩ ∧ B ≤ g ∧ g < w.heap.size ∧ (∀ j, w.frozen? ⟨g, j, none⟩ = false) ∧ ∀ j u, xs[j]? = some u → w.cell? ⟨g, j, none⟩ = some u) := by
  rcases h.2 with ⟨e, h0⟩ | ⟨g, cap, cur, e, hb, hg, hn, _⟩
  · exact ⟨none, 0, by rw [e, h0], by omega, fun h9 => by omega⟩
  · refine ⟨_, _, e, hn, fun _ => ⟨g, rfl, hb, lt_of_heap hg, fun j => blk_frozen hg j, fun j u hu => ?_⟩⟩
    have h9 := World.ownsRow.cells h (g := g) (by rw [e]; rfl) j u hu
    rw [addr_add, Nat.zero_add] at h9
    exact h9
/-- A row of postings, whatever it holds. -/
def RwA (w : World) (B n : Nat) (v : Value) : Prop := ∃ xs, w.ownsRow B 53 2 v n xs
theorem RowP.rwa {w : World} {B : Nat} {v : Value} {ps : List PostV} {vs : Nat → Value} (h : RowP w B v ps vs) : RwA w B ps.length v := ⟨_, h.row⟩
theorem RwA.at_ {w : World} {B n : Nat} {v : Value} (h : RwA w B n v) : ∃ a c, v = .slice a n c ∧ n ≤ c ∧ (0 < n → ∃ g, a = some ⟨g, 0, none⟩ ∧ B ≤ g ∧ g < w.heap.size ∧ (∀ j, w.frozen? ⟨g, j, none⟩ = false) ∧ ∀ t, t < n → ∃ u, w.cell? ⟨g, 2 * t, none⟩ = some u) := by
  obtain ⟨xs, h⟩ := h
  obtain ⟨a, c, e, hc, hg⟩ := row_at9 h
  refine ⟨a, c, e, hc, fun h0 => ?_⟩
  obtain ⟨g, e2, h1, h2, h3, h4⟩ := hg h0
  have hl := h.1
  exact ⟨g, e2, h1, h2, h3, fun t ht => ⟨_, h4 (2 * t) _ (List.getElem?_eq_getElem (by omega))⟩⟩
theorem RwA.set {w : World} {B n g k c : Nat} (h : RwA w B n (.slice (some ⟨g, 0, none⟩) k c)) (j : Nat) (x : Value) : RwA (w.setCell ⟨g, j, none⟩ x) B n (.slice (some ⟨g, 0, none⟩) k c) := by
  obtain ⟨xs, h⟩ := h
  have hk : k = n := by
    rcases h.2 with ⟨e, _⟩ | ⟨g', cap, cur, e, _⟩
    · injection e with e; cases e
    · injection e
  subst hk
  exact ⟨_, (World.ownsRow.stored h j x).1⟩
theorem RwA.eff {F : Nat → Prop} {w w' : World} {B n : Nat} {v : Value} (h : RwA w B n v) (e : Eff F w w') (hF : ∀ k, v.ownBlock = some k → ¬ F k) : RwA w' B n v := by
  obtain ⟨xs, h⟩ := h
  exact ⟨xs, row_eff h e hF⟩
/-- The documents of a row stay under changes of lists. -/
theorem row_lists9 {w w' : World} {B n B2 N : Nat} {v : Value} {xs : List Value} {vs : Nat → Value} {ys : Nat → List Int} (h : w.ownsRow B 53 2 v n xs) (ho : OwnLI w B2 N vs ys) (e : Eff (FvI N vs) w w') : w'.ownsRow B 53 2 v n xs :=
  row_eff h e (fun k hk ⟨q, hq, hb⟩ => row_ne_own h (ho.own q hq) (by decide) hk hb)
end Go.Proofs.YthnpbfadblcicaaDoor
