/- posts: lists of postings of the call's own, each posting with a list of positions of its own. -/
import Derived.Test.YthnpbfadblcicaaDoorZG2
import Derived.Laws.OwnMore
import Derived.OwnWalk
namespace Go.Proofs.YthnpbfadblcicaaDoor
set_option linter.unusedVariables false
open Go.ChangeShapes Go.WideShapes Go.ChangeAt Go.RowKit

theorem getD_at {α : Type} (l : List α) (d : α) {i : Nat} (h : i < l.length) : l.getD i d = l[i] := by simp [List.getD, h]
def pz : PostV := ⟨0, []⟩
def pcells (ps : List PostV) (vs : Nat → Value) : List Value := (List.range (ps.length * 2)).map fun j => if j % 2 = 0 then .int .i64 (ps.getD (j / 2) pz).doc else vs (j / 2)
theorem pcells_length (ps : List PostV) (vs : Nat → Value) : (pcells ps vs).length = ps.length * 2 := by simp [pcells]
theorem pcells_get (ps : List PostV) (vs : Nat → Value) (j : Nat) (h : j < ps.length * 2) : (pcells ps vs)[j]? = some (if j % 2 = 0 then .int .i64 (ps.getD (j / 2) pz).doc else vs (j / 2)) := by
  unfold pcells
  rw [List.getElem?_map, List.getElem?_range h]; rfl
theorem pcells_none (ps : List PostV) (vs : Nat → Value) (j : Nat) (h : ¬ j < ps.length * 2) : (pcells ps vs)[j]? = none := List.getElem?_eq_none (by rw [pcells_length]; omega)
structure RowP (w : World) (base : Nat) (v : Value) (ps : List PostV) (vs : Nat → Value) : Prop where
  row : w.ownsRow base 53 2 v ps.length (pcells ps vs)
  own : ∀ k (h : k < ps.length), Own w base 3 (vs k) (intL ps[k].pos)
  sep : ∀ k l b, k < ps.length → l < ps.length → k ≠ l → (vs k).ownBlock = some b → (vs l).ownBlock ≠ some b
theorem RowP.sl {w : World} {base : Nat} {v : Value} {ps : List PostV} {vs : Nat → Value} (h : RowP w base v ps vs) : ∃ a c, v = .slice a ps.length c ∧ ps.length ≤ c ∧ c ≤ maxLen := by
  rcases h.row.2 with ⟨rfl, h0⟩ | ⟨g, cap, cur, hv, _, _, h1, h2, _⟩
  · exact ⟨none, 0, by rw [h0], by omega, by decide⟩
  · exact ⟨_, _, hv, h1, h2⟩
theorem RowP.lt {w : World} {base : Nat} {v : Value} {ps : List PostV} {vs : Nat → Value} (h : RowP w base v ps vs) : ∀ k, v.ownBlock = some k → base ≤ k ∧ k < w.heap.size := World.ownsRow.lt h.row
/-- The blocks of a list of postings. -/
def RowB (v : Value) (n : Nat) (vs : Nat → Value) (b : Nat) : Prop := v.ownBlock = some b ∨ ∃ k, k < n ∧ (vs k).ownBlock = some b
theorem RowP.ge {w : World} {base : Nat} {v : Value} {ps : List PostV} {vs : Nat → Value} (h : RowP w base v ps vs) : ∀ b, RowB v ps.length vs b → base ≤ b ∧ b < w.heap.size := by
  rintro b (hb | ⟨k, hk, hb⟩)
  · exact h.lt b hb
  · exact (h.own k hk).lt b hb
theorem row_eff {F : Nat → Prop} {w w' : World} {base n : Nat} {v : Value} {t : TypeId} {s : Nat} {xs : List Value} (h : w.ownsRow base t s v n xs) (e : Eff F w w') (hF : ∀ k, v.ownBlock = some k → ¬ F k) : w'.ownsRow base t s v n xs := by
  refine ⟨h.1, ?_⟩
  rcases h.2 with hn | ⟨g, cap, cur, rfl, hb, hgg, rest⟩
  · exact .inl hn
  · exact .inr ⟨g, cap, cur, rfl, hb, (e.block g (lt_of_heap hgg) (hF g rfl)).trans hgg, rest⟩
theorem row_ne_type {w : World} {base n : Nat} {v : Value} {t : TypeId} {s : Nat} {xs : List Value} (h : w.ownsRow base t s v n xs) {g : Nat} {cs : Array Value} {t2 : TypeId} {fr : Nat × Nat} (hg : w.heap[g]? = some (.cells cs t2 fr)) (hne : t ≠ t2) : v.ownBlock ≠ some g := by
  rcases h.2 with ⟨rfl, _⟩ | ⟨g', cap, cur, rfl, _, hgg, _⟩
  · simp [Value.ownBlock]
  · intro he
    have he' : g' = g := by simpa [Value.ownBlock] using he
    subst he'
    rw [hgg] at hg
    injection hg with hg
    injection hg with _ ht
    exact hne ht
theorem row_ne_own {w : World} {base b2 n : Nat} {v y : Value} {t t2 : TypeId} {s : Nat} {xs ys : List Value} (h : w.ownsRow base t s v n xs) (ho : Own w b2 t2 y ys) (hne : t ≠ t2) {k : Nat} (hk : v.ownBlock = some k) : y.ownBlock ≠ some k := by
  rcases h.2 with ⟨rfl, _⟩ | ⟨g', cap, cur, rfl, _, hgg, _⟩
  · simp [Value.ownBlock] at hk
  · have he' : g' = k := by simpa [Value.ownBlock] using hk
    subst he'
    exact ho.ne_type hgg (fun e => hne e.symm)
theorem RowP.eff {F : Nat → Prop} {w w' : World} {base : Nat} {v : Value} {ps : List PostV} {vs : Nat → Value} (h : RowP w base v ps vs) (e : Eff F w w') (hF : ∀ b, RowB v ps.length vs b → ¬ F b) : RowP w' base v ps vs :=
  ⟨row_eff h.row e (fun k hk => hF k (.inl hk)), fun k hk => (h.own k hk).eff e (fun b hb => hF b (.inr ⟨k, hk, hb⟩)), h.sep⟩
theorem RowP.below {B : Nat} {w w' : World} {base : Nat} {v : Value} {ps : List PostV} {vs : Nat → Value} (h : RowP w base v ps vs) (hb : Below B w w') (hB : w.heap.size ≤ B) : RowP w' base v ps vs :=
  h.eff (F := fun k => B ≤ k) ⟨hb.os, hb.tape, hb.output, hb.size, fun k hk hn => hb.block k (by omega)⟩ (fun k hk => by have := (h.ge k hk).2; omega)
theorem RowP.mono {w : World} {base base' : Nat} {v : Value} {ps : List PostV} {vs : Nat → Value} (h : RowP w base v ps vs) (hb : base' ≤ base) : RowP w base' v ps vs := by
  refine ⟨⟨h.row.1, ?_⟩, fun k hk => own_base (h.own k hk) hb, h.sep⟩
  rcases h.row.2 with hn | ⟨g, cap, cur, rfl, hbg, rest⟩
  · exact .inl hn
  · exact .inr ⟨g, cap, cur, rfl, Nat.le_trans hb hbg, rest⟩
/-- Its cells. -/
theorem RowP.at_ {w : World} {base : Nat} {a : Option Addr} {n c : Nat} {ps : List PostV} {vs : Nat → Value} (h : RowP w base (.slice a n c) ps vs) (i : Nat) (hi : i < ps.length) :
    ∃ g, a = some ⟨g, 0, none⟩ ∧ base ≤ g ∧ g < w.heap.size ∧ w.cell? ⟨g, i * 2, none⟩ = some (.int .i64 ps[i].doc) ∧ w.cell? ⟨g, i * 2 + 1, none⟩ = some (vs i) ∧ ∀ j, w.frozen? ⟨g, j, none⟩ = false := by
  rcases h.row.2 with ⟨hv, h0⟩ | ⟨g, cap, cur, hv, hb, hg, hn, _⟩
  · omega
  · have hc := World.ownsRow.cells h.row (g := g) (by rw [hv]; rfl)
    injection hv with e1 e2 e3
    subst e1
    refine ⟨g, rfl, hb, lt_of_heap hg, ?_, ?_, fun j => blk_frozen hg j⟩
    · have h1 := hc (i * 2) _ (pcells_get ps vs (i * 2) (by omega))
      rw [addr_add, Nat.zero_add, if_pos (by omega), show i * 2 / 2 = i by omega, getD_at _ _ hi] at h1
      exact h1
    · have h1 := hc (i * 2 + 1) _ (pcells_get ps vs (i * 2 + 1) (by omega))
      rw [addr_add, Nat.zero_add, if_neg (by omega), show (i * 2 + 1) / 2 = i by omega] at h1
      exact h1
theorem RowP.rd {w : World} {base : Nat} {a : Option Addr} {n c : Nat} {ps : List PostV} {vs : Nat → Value} (h : RowP w base (.slice a n c) ps vs) : RdPost w a n ps := by
  obtain ⟨_, _, e, _⟩ := h.sl
  injection e with _ e _
  refine ⟨e, fun h0 => ?_⟩
  obtain ⟨g, rfl, _⟩ := h.at_ 0 h0
  refine ⟨g, 0, rfl, fun i hi => ?_⟩
  obtain ⟨g', e1, _, _, h1, h2, _⟩ := h.at_ i hi
  injection e1 with e1
  injection e1 with e1
  subst e1
  have ho := h.own i hi
  obtain ⟨A, C, hv⟩ := own_slice ho
  rw [intL_length] at hv
  rw [hv] at h2 ho
  exact ⟨by rw [Nat.zero_add]; exact h1, A, C, by rw [Nat.zero_add]; exact h2, ho.rd⟩
theorem pcells_put (ps : List PostV) (vs : Nat → Value) (i : Nat) (hi : i < ps.length) (d : Int) (pos : List Int) (s : Value) :
    ((pcells ps vs).set (i * 2) (.int .i64 d)).set (i * 2 + 1) s = pcells (ps.set i ⟨d, pos⟩) (fun k => if k = i then s else vs k) := by
  refine List.ext_getElem? fun j => ?_
  by_cases hj : j < ps.length * 2
  · rw [pcells_get _ _ j (by rw [List.length_set]; exact hj)]
    by_cases h1 : j = i * 2 + 1
    · subst h1
      rw [List.getElem?_set_self (by rw [List.length_set, pcells_length]; exact hj), if_neg (by omega), show (i * 2 + 1) / 2 = i by omega, if_pos rfl]
    · rw [List.getElem?_set_ne (fun e => h1 e.symm)]
      by_cases h2 : j = i * 2
      · subst h2
        rw [List.getElem?_set_self (by rw [pcells_length]; exact hj), if_pos (by omega), show i * 2 / 2 = i by omega, getD_at _ _ (by rw [List.length_set]; exact hi), List.getElem_set_self]
      · rw [List.getElem?_set_ne (fun e => h2 e.symm), pcells_get _ _ j hj]
        have hne : j / 2 ≠ i := by omega
        rw [if_neg hne]
        congr 1
        by_cases hm : j % 2 = 0
        · rw [if_pos hm, if_pos hm, getD_at _ _ (by omega), getD_at _ _ (by rw [List.length_set]; omega), List.getElem_set_ne (fun e => hne e.symm)]
        · rw [if_neg hm, if_neg hm]
  · rw [pcells_none _ _ _ (by rw [List.length_set]; exact hj), List.getElem?_eq_none (by rw [List.length_set, List.length_set, pcells_length]; omega)]
/-- An entry put. -/
theorem RowP.put {w : World} {base g n c : Nat} {ps : List PostV} {vs : Nat → Value} (h : RowP w base (.slice (some ⟨g, 0, none⟩) n c) ps vs) (i : Nat) (hi : i < ps.length) (d : Int) (pos : List Int) (s : Value) (hs : Own w base 3 s (intL pos))
    (hsep : ∀ k b, k < ps.length → k ≠ i → (vs k).ownBlock = some b → s.ownBlock ≠ some b) :
    RowP ((w.setCell ⟨g, i * 2, none⟩ (.int .i64 d)).setCell ⟨g, i * 2 + 1, none⟩ s) base (.slice (some ⟨g, 0, none⟩) n c) (ps.set i ⟨d, pos⟩) (fun k => if k = i then s else vs k) := by
  obtain ⟨_, _, e, _⟩ := h.sl
  injection e with _ e _
  subst e
  have h1 := (World.ownsRow.stored h.row (i * 2) (.int .i64 d)).1
  have h2 := (World.ownsRow.stored h1 (i * 2 + 1) s).1
  rw [pcells_put ps vs i hi d pos s] at h2
  have hgne : ∀ {y : Value} {ys : List Value}, Own w base 3 y ys → y.ownBlock ≠ some g := fun ho => row_ne_own h.row ho (by decide) rfl
  have hset : ∀ {y : Value} {ys : List Value}, Own w base 3 y ys → Own ((w.setCell ⟨g, i * 2, none⟩ (.int .i64 d)).setCell ⟨g, i * 2 + 1, none⟩ s) base 3 y ys := fun ho =>
    (ho.setOther (p := ⟨g, i * 2, none⟩) (hgne ho) _).setOther (p := ⟨g, i * 2 + 1, none⟩) (hgne ho) _
  refine ⟨by rw [List.length_set]; exact h2, fun k hk => ?_, fun k l b hk hl hkl hb => ?_⟩
  · rw [List.length_set] at hk
    by_cases e : k = i
    · subst e
      simp only [if_true, List.getElem_set_self]
      exact hset hs
    · simp only [if_neg e, List.getElem_set_ne (fun e2 => e e2.symm)]
      exact hset (h.own k hk)
  · rw [List.length_set] at hk hl
    by_cases e : k = i
    · subst e
      simp only [if_true] at hb
      simp only [if_neg (fun e2 : l = k => hkl e2.symm)]
      exact fun h9 => hsep l b hl (fun e2 => hkl e2.symm) h9 hb
    · simp only [if_neg e] at hb
      by_cases e2 : l = i
      · subst e2
        simp only [if_true]
        exact hsep k b hk e hb
      · simp only [if_neg e2]
        exact h.sep k l b hk hl hkl hb
/-- A position put. -/
theorem RowP.pos {w : World} {base n c : Nat} {a : Option Addr} {ps : List PostV} {vs : Nat → Value} (h : RowP w base (.slice a n c) ps vs) (i : Nat) (hi : i < ps.length) {g2 n2 c2 : Nat} (hv : vs i = .slice (some ⟨g2, 0, none⟩) n2 c2) (j : Nat) (x : Int) :
    RowP (w.setCell ⟨g2, j, none⟩ (.int .i64 x)) base (.slice a n c) (ps.set i ⟨ps[i].doc, ps[i].pos.set j x⟩) vs := by
  have hne : (Value.slice a n c).ownBlock ≠ some g2 := fun h9 => row_ne_own h.row (h.own i hi) (by decide) h9 (by rw [hv]; rfl)
  have he : Eff (· = g2) w (w.setCell ⟨g2, j, none⟩ (.int .i64 x)) := (Eff.refl (fun k => k = g2) w).setCell (p := ⟨g2, j, none⟩) (fun _ => rfl) _
  have hr := row_eff h.row he (fun k hk e => hne (e ▸ hk))
  have hpc : pcells (ps.set i ⟨ps[i].doc, ps[i].pos.set j x⟩) vs = pcells ps vs := by
    unfold pcells
    rw [List.length_set]
    refine List.map_congr_left fun t ht => ?_
    have ht := List.mem_range.1 ht
    by_cases hm : t % 2 = 0
    · rw [if_pos hm, if_pos hm, getD_at _ _ (by rw [List.length_set]; omega), getD_at _ _ (by omega)]
      by_cases e : i = t / 2
      · subst e; rw [List.getElem_set_self]
      · rw [List.getElem_set_ne e]
    · rw [if_neg hm, if_neg hm]
  refine ⟨by rw [List.length_set, hpc]; exact hr, fun k hk => ?_, fun k l b hk hl hkl => h.sep k l b (by simpa using hk) (by simpa using hl) hkl⟩
  rw [List.length_set] at hk
  by_cases e : i = k
  · subst e
    rw [List.getElem_set_self]
    have h1 := h.own i hi
    rw [hv] at h1 ⊢
    exact own_to (h1.set j (.int .i64 x)) (by simp [intL, List.map_set])
  · rw [List.getElem_set_ne e]
    exact (h.own k hk).setOther (p := ⟨g2, j, none⟩) (h.sep i k g2 hi hk e (by rw [hv]; rfl)) _
theorem post_info : (Tryd.prog.info? 53).map (fun i => (i.size, i.bytes, (i.zero.map fun z => z.cells))) = some (2, 32, some #[.int .i64 0, .slice none 0 0]) := by kernel_rfl
/-- Postings not told yet. -/
def zPs (n : Nat) : List PostV := List.replicate n pz
theorem made_posts (n : Nat) : madeCells #[.int .i64 0, .slice none 0 0] (n * 2) = (pcells (zPs n) (fun _ => .slice none 0 0)).toArray := by
  apply Array.ext'
  apply List.ext_getElem?
  intro j
  by_cases hj : j < n * 2
  · have hl : (zPs n).length = n := by simp [zPs]
    rw [List.toList_toArray, pcells_get _ _ j (by rw [hl]; exact hj), getD_at _ _ (by rw [hl]; omega)]
    have hd : ((zPs n)[j / 2]'(by rw [hl]; omega)).doc = 0 := by simp [zPs, pz]
    rw [hd]
    rcases Nat.mod_two_eq_zero_or_one j with hm | hm
    · simp [madeCells, hj, hm]
    · simp [madeCells, hj, hm]
  · rw [List.toList_toArray, pcells_none _ _ _ (by simp [zPs]; omega)]
    simp [madeCells, hj]
theorem make_posts (n : Nat) (hn : n ≤ 1000000000) (k : Int) (hk : k = n) (w : World) :
    (Instr.makeSlice 22 (.int .i64 k) (.int .i64 k)).run Tryd.prog w = .ok (.slice (some ⟨w.heap.size, 0, none⟩) n n) (w.alloc (.cells (pcells (zPs n) (fun _ => .slice none 0 0)).toArray 53)) := by
  subst hk
  obtain ⟨i0, hi, hrest⟩ := Option.map_eq_some_iff.1 post_info
  simp only [Prod.mk.injEq] at hrest
  obtain ⟨h8, hby, hz⟩ := hrest
  obtain ⟨z, hz, hzs⟩ := Option.map_eq_some_iff.1 hz
  have hr := run_make (P := Tryd.prog) w 22 53 i0 z Tryd.underlying22 hi hz .i64 .i64 n n (by omega) (Int.le_refl _) (by rw [hby]; omega) (by omega)
  simp only [Int.toNat_natCast, h8, hzs, made_posts] at hr
  exact hr
theorem rowP_made (w : World) (base n : Nat) (hb : base ≤ w.heap.size) (hn : n ≤ 1000000000) : RowP (w.alloc (.cells (pcells (zPs n) (fun _ => .slice none 0 0)).toArray 53)) base (.slice (some ⟨w.heap.size, 0, none⟩) n n) (zPs n) (fun _ => .slice none 0 0) := by
  have hl : (zPs n).length = n := by simp [zPs]
  refine ⟨?_, fun k hk => ?_, fun k l b _ _ _ hb => by simp [Value.ownBlock] at hb⟩
  · have := World.ownsRow_lit (base := base) (e := 53) (size := 2) w (pcells (zPs n) (fun _ => .slice none 0 0)).toArray n hb (by unfold maxLen; omega) (by simp [pcells_length, hl])
    rw [hl]; exact this
  · have : (zPs n)[k].pos = [] := by simp [zPs, pz]
    rw [this]; exact own_nil _ _ _
end Go.Proofs.YthnpbfadblcicaaDoor
