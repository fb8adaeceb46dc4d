/- Merged: DictS, DictT, HeadsP. -/
import Derived.Test.YtejmjjgbbojfbaaDoorZDictW
import Derived.Handy
/- dict: sort.Search; Seek, Find, Len, At. -/
namespace Go.Proofs.YtejmjjgbbojfbaaDoor
set_option linter.unusedVariables false
open Go.ChangeShapes Go.WideShapes Go.ChangeAt Go.RowKit

set_option maxRecDepth 100000 in
set_option maxHeartbeats 1000000 in
theorem search_any (G : FuncId) (cb : Array Value) (n b : Nat) (p : Nat → Bool) (w : World) (eg : ∀ args w, (callFunc G args).run Tryd.prog w = .ok (.enter G args) w) (hn : n ≤ 1000000000)
    (hf : ∀ m i, i < n → Calls Tryd.prog G (#[.int .i64 i] ++ cb) (w.drewN m) fun e w' => e = .returned (.bool (p i)) ∧ ∃ q, w' = w.drewN q) (hb : b ≤ n) (h0 : ∀ t, t < b → p t = false) (h1 : ∀ t, b ≤ t → t < n → p t = true) :
    Calls Tryd.prog 89 #[.int .i64 n, .func (.func G) #[] cb] w fun e w' => e = .returned (.int .i64 b) ∧ ∃ q, w' = w.drewN q := by
  have HF := Lib.hid hf
  have H0 := Lib.hid h0
  have H1 := Lib.hid h1
  clear hf h0 h1
  go_enter Tryd.func89, Tryd.ntmps89
  go_wp2
  go_loopw [5, 6] (fun s5 s6 wr => ∃ (lo hi d : Nat), s5 = .int .i64 lo ∧ s6 = .int .i64 hi ∧ lo ≤ b ∧ b ≤ hi ∧ hi ≤ n ∧ wr = w.drewN d) (fun s5 s6 _ => (intOf s6).toNat - (intOf s5).toNat)
  case atStart => exact ⟨0, n, 0, rfl, rfl, Nat.zero_le _, hb, Nat.le_refl _, rfl⟩
  case round =>
    obtain ⟨lo, hi, d, rfl, rfl, hl, hh, hhn, rfl⟩ := hrel
    by_cases hlt : lo < hi
    · have hc := HF.out d ((lo + hi) / 2) (by omega)
      rw [show (((lo + hi) / 2 : Nat) : Int) = ((lo : Int) + (hi : Int)) / 2 by omega] at hc
      by_cases hp : (lo + hi) / 2 < b
      · rw [H0.out _ hp] at hc
        go_wp2_with fail
        refine hc.mono ?_
        rintro e w' ⟨rfl, q, rfl⟩
        clear hc
        go_wp2
        go_roundw
        case rel => exact ⟨(lo + hi) / 2 + 1, hi, q, by rw [show ((lo : Int) + (hi : Int)) / 2 + 1 = (((lo + hi) / 2 + 1 : Nat) : Int) by omega], rfl, hp, hh, hhn, rfl⟩
        case measure => simp [intOf]; omega
      · rw [H1.out _ (by omega) (by omega)] at hc
        go_wp2_with fail
        refine hc.mono ?_
        rintro e w' ⟨rfl, q, rfl⟩
        clear hc
        go_wp2
        go_roundw
        case rel => exact ⟨lo, (lo + hi) / 2, q, rfl, by rw [show ((lo : Int) + (hi : Int)) / 2 = (((lo + hi) / 2 : Nat) : Int) by omega], hl, by omega, by omega, rfl⟩
        case measure => simp [intOf]; omega
    · obtain rfl : lo = b := by omega
      go_wp2
      go_ret
      exact ⟨rfl, d, rfl⟩

/-! ### Keys in order -/
theorem bl_trans : ∀ a b c : List UInt8, Go.Op.bytesLess a b = true → Go.Op.bytesLess b c = true → Go.Op.bytesLess a c = true
  | [], [], c, h, _ => by simp [Go.Op.bytesLess] at h
  | [], b :: bs, [], _, h => by simp [Go.Op.bytesLess] at h
  | [], b :: bs, c :: cs, _, _ => rfl
  | a :: xs, [], c, h, _ => by simp [Go.Op.bytesLess] at h
  | a :: xs, b :: ys, [], _, h => by simp [Go.Op.bytesLess] at h
  | a :: xs, b :: ys, c :: zs, h, k => by
    unfold Go.Op.bytesLess at *
    simp only [Bool.or_eq_true, Bool.and_eq_true, decide_eq_true_eq, beq_iff_eq] at *
    rcases h with h | ⟨rfl, h⟩
    · rcases k with k | ⟨rfl, k⟩
      · left; have h1 := UInt8.lt_iff_toNat_lt.1 h; have h2 := UInt8.lt_iff_toNat_lt.1 k; exact UInt8.lt_iff_toNat_lt.2 (by omega)
      · left; exact h
    · rcases k with k | ⟨rfl, k⟩
      · left; exact k
      · right; exact ⟨rfl, bl_trans xs ys zs h k⟩
theorem bl_irrefl : ∀ a : List UInt8, Go.Op.bytesLess a a = false
  | [] => rfl
  | a :: xs => by
    unfold Go.Op.bytesLess
    have h : ¬ a < a := fun k => by have := UInt8.lt_iff_toNat_lt.1 k; omega
    simp [h, bl_irrefl xs]
theorem rising_lt {es : List EntV} (h : rising none es) : ∀ (i j : Nat) (hj : j < es.length) (hij : i < j), Go.Op.bytesLess (es[i]'(by omega)).K es[j].K = true := by
  intro i j
  induction j with
  | zero => intro _ h; omega
  | succ j ih =>
    intro hj hij
    have h1 := (rising_none es).1 h j hj
    rcases Nat.lt_or_eq_of_le (Nat.lt_succ_iff.1 hij) with h2 | h2
    · exact bl_trans _ _ _ (ih (by omega) h2) h1
    · subst h2; exact h1
/-- How many keys are less than k. -/
def seekP (es : List EntV) (k : List UInt8) : Nat := (es.takeWhile fun e => Go.Op.bytesLess e.K k).length
theorem seekP_le (es : List EntV) (k : List UInt8) : seekP es k ≤ es.length := by unfold seekP; exact (List.takeWhile_sublist _).length_le
theorem seekP_lt : ∀ (es : List EntV) (k : List UInt8) (t : Nat) (h : t < es.length), t < seekP es k → Go.Op.bytesLess es[t].K k = true
  | [], _, _, h, _ => by simp at h
  | e :: r, k, t, h, ht => by
    unfold seekP at ht
    cases he : Go.Op.bytesLess e.K k with
    | false => rw [List.takeWhile_cons_of_neg (by simp [he])] at ht; simp at ht
    | true =>
      rw [List.takeWhile_cons_of_pos (by simp [he])] at ht
      cases t with
      | zero => exact he
      | succ t => exact seekP_lt r k t (by simpa using h) (by simpa [seekP] using ht)
theorem seekP_at : ∀ (es : List EntV) (k : List UInt8) (h : seekP es k < es.length), Go.Op.bytesLess es[seekP es k].K k = false
  | [], _, h => by simp at h
  | e :: r, k, h => by
    cases he : Go.Op.bytesLess e.K k with
    | false =>
      have e0 : seekP (e :: r) k = 0 := by unfold seekP; rw [List.takeWhile_cons_of_neg (by simp [he])]; rfl
      simp only [e0]; exact he
    | true =>
      have e0 : seekP (e :: r) k = seekP r k + 1 := by unfold seekP; rw [List.takeWhile_cons_of_pos (by simp [he])]; rfl
      simp only [e0]
      exact seekP_at r k (by rw [e0] at h; simpa using h)
theorem seekP_ge {es : List EntV} (hr : rising none es) (k : List UInt8) (t : Nat) (h : t < es.length) (ht : seekP es k ≤ t) : Go.Op.bytesLess es[t].K k = false := by
  have h1 := seekP_at es k (by omega)
  rcases Nat.lt_or_eq_of_le ht with h2 | h2
  · cases hb : Go.Op.bytesLess es[t].K k with
    | false => rfl
    | true => have := bl_trans _ _ _ (rising_lt hr _ t h h2) hb; rw [h1] at this; cases this
  · subst h2; exact h1
def keyAt (es : List EntV) (i : Nat) : ByteArray := (es[i]?.map EntV.k).getD ⟨#[]⟩
theorem keyAt_eq (es : List EntV) (i : Nat) (h : i < es.length) : keyAt es i = es[i].k := by unfold keyAt; rw [List.getElem?_eq_getElem h]; rfl

/-- A dictionary's entries, as its methods read them. -/
theorem DictAt.sl {w : World} {base q : Nat} {v : Value} {es : List EntV} (h : DictAt w base q v es) : ∃ a c, v = .slice a es.length c ∧ w.cell? ⟨q, 0, none⟩ = some (.slice a es.length c) ∧ (∀ i (hi : i < es.length), ∃ g, a = some ⟨g, 0, none⟩ ∧ EntAt w g (i * 5) es[i]) := by
  obtain ⟨a, c, rfl⟩ := h.row.sl
  exact ⟨a, c, rfl, h.c0, fun i hi => by
    obtain ⟨g, e, _, _, _, hat⟩ := h.row.head (by omega)
    exact ⟨g, e, hat i hi⟩⟩

set_option maxRecDepth 100000 in
theorem seekc_any (W : World) (base q bd bk : Nat) (v : Value) (es : List EntV) (hD : DictAt W base q v es) (key : ByteArray) (hd : W.cell? ⟨bd, 0, none⟩ = some (.pointer (some ⟨q, 0, none⟩))) (hk : W.cell? ⟨bk, 0, none⟩ = some (.string key)) (i : Nat) (hi : i < es.length) (hel : es.length ≤ 1000000000) :
    Calls Tryd.prog 93 #[.int .i64 i, .pointer (some ⟨bd, 0, none⟩), .pointer (some ⟨bk, 0, none⟩)] W fun e w' => e = .returned (.bool (!Go.Op.bytesLess (keyAt es i).data.toList key.data.toList)) ∧ ∃ m, w' = W.drewN m := by
  obtain ⟨a, c, rfl, hc, hat⟩ := hD.sl
  obtain ⟨g, rfl, hg⟩ := hat i hi
  have hgk := hg.k
  rw [← keyAt_eq es i hi] at hgk
  generalize keyAt es i = ky at hgk ⊢
  have i1 : (i : Int) < (es.length : Int) := by omega
  have tk := ba_list ky
  have tk2 := ba_list key
  rw [← tk, ← tk2]
  clear tk tk2 hg hat hD
  go_enter Tryd.func93, Tryd.ntmps93
  go_wp2
  go_quiet (fail)
  go_wp2
  go_ret
  exact ⟨rfl, _, rfl⟩

set_option maxRecDepth 100000 in
theorem seek_any (w : World) (base q : Nat) (v : Value) (es : List EntV) (hD : DictAt w base q v es) (hr : rising none es) (hel : es.length ≤ 1000000000) (key : ByteArray) :
    Calls Tryd.prog 88 #[.pointer (some ⟨q, 0, none⟩), .string key] w fun e w' => e = .returned (.int .i64 (seekP es key.data.toList : Nat)) ∧ Below w.heap.size w w' := by
  have hmf : ∀ (fn : Fn) (first cap : Array Value) (w : World), (Instr.makeFunc fn first cap).run Tryd.prog w = .ok (.func fn first cap) w := fun _ _ _ _ => rfl
  obtain ⟨w2, hw2⟩ : ∃ w2, w2 = (w.alloc (.cells #[.pointer (some ⟨q, 0, none⟩)] 68)).alloc (.cells #[.string key] 9) := ⟨_, rfl⟩
  have hb2 : Below w.heap.size w w2 := by rw [hw2]; exact ((Below.refl _ _).alloc (Nat.le_refl _) _).alloc (by simp) _
  have hD2 := hD.below hb2 (Nat.le_refl _)
  have c1 : w2.cell? ⟨w.heap.size, 0, none⟩ = some (.pointer (some ⟨q, 0, none⟩)) := by rw [hw2]; exact blk_cell ((Below.heap_alloc _ _ _ (by simp)).trans (heap_alloc_new w _)) 0
  have c2 : w2.cell? ⟨w.heap.size + 1, 0, none⟩ = some (.string key) := by
    rw [hw2]; have := heap_alloc_new (w.alloc (.cells #[.pointer (some ⟨q, 0, none⟩)] 68)) (.cells #[.string key] 9); rw [World.size_alloc] at this; exact blk_cell this 0
  obtain ⟨a, c, rfl, hc, hat⟩ := hD2.sl
  have C1 := search_any 93 #[.pointer (some ⟨w.heap.size, 0, none⟩), .pointer (some ⟨w.heap.size + 1, 0, none⟩)] es.length (seekP es key.data.toList) (fun i => !Go.Op.bytesLess (keyAt es i).data.toList key.data.toList) w2 (fun args w => by
      have h1 : Tryd.prog.funcs[(93 : Nat)]? = some Tryd.f93 := by kernel_rfl
      simp [callFunc, h1, mark]; first | rfl | (kernel_rfl)) hel
    (fun m i hi => (seekc_any (w2.drewN m) base q w.heap.size (w.heap.size + 1) _ es (hD2.drewN m) key c1 c2 i hi hel).mono (fun _ _ ⟨he, n, hn⟩ => ⟨he, m + n, by rw [hn, World.drewN_drewN]⟩))
    (seekP_le _ _) (fun t ht => by rw [keyAt_eq es t (by have := seekP_le es key.data.toList; omega)]; have := seekP_lt es key.data.toList t (by have := seekP_le es key.data.toList; omega) ht; unfold EntV.K at this; rw [this]; rfl)
    (fun t h1 h2 => by rw [keyAt_eq es t h2]; have := seekP_ge hr key.data.toList t h2 h1; unfold EntV.K at this; rw [this]; rfl)
  obtain ⟨r, hr'⟩ : ∃ r, seekP es key.data.toList = r := ⟨_, rfl⟩
  rw [hr'] at C1 ⊢
  have HB2 := Lib.hid hb2
  have HW2 := Lib.hid hw2
  rw [hw2] at C1 hc
  clear hat hb2 c1 c2 hD hD2 hr hr' hw2
  go_enter Tryd.func88, Tryd.ntmps88
  go_wp2_with fail
  refine C1.mono ?_
  rintro e w3 ⟨rfl, d, rfl⟩
  rw [← HW2.out]
  go_wp2
  go_ret
  exact ⟨rfl, below_drewN HB2.out d⟩

/-- What Find answers. -/
def findP (es : List EntV) (k : List UInt8) : Nat × Bool := if h : seekP es k < es.length then if es[seekP es k].K = k then (seekP es k, true) else (0, false) else (0, false)
end Go.Proofs.YtejmjjgbbojfbaaDoor

/- dict: At; the chapter's two entries; bytes.Equal. -/
namespace Go.Proofs.YtejmjjgbbojfbaaDoor
set_option linter.unusedVariables false
open Go.ChangeShapes Go.WideShapes Go.ChangeAt Go.RowKit

set_option maxRecDepth 100000 in
theorem at_in (w : World) (base q : Nat) (v : Value) (es : List EntV) (hD : DictAt w base q v es) (hel : es.length ≤ 1000000000) (i : Nat) (hi : i < es.length) :
    Calls Tryd.prog 61 #[.pointer (some ⟨q, 0, none⟩), .int .i64 i] w fun e w' => e = .returned (.tuple #[.agg es[i].cells.toArray, .bool true]) ∧ Below w.heap.size w w' := by
  have hD0 : DictAt (w.alloc (.cells #[.string ⟨#[]⟩, .int .i64 0, .int .i64 0, .int .i64 0, .int .i64 0] 116)) base q v es := hD.below ((Below.refl _ _).alloc (Nat.le_refl _) _) (Nat.le_refl _)
  obtain ⟨a, c, rfl, hc, hat⟩ := hD0.sl
  obtain ⟨g, rfl, d0, d1, d2, d3, d4⟩ := hat i hi
  generalize es[i] = en at d0 d1 d2 d3 d4 ⊢
  obtain ⟨ek, ed, et, ea, es'⟩ := en
  simp only at d0 d1 d2 d3 d4
  have i1 : (i : Int) < (es.length : Int) := by omega
  have t1 : decide ((i : Int) < 0) = false := decide_eq_false (by omega)
  have t2 : decide (es.length ≤ i) = false := decide_eq_false (by omega)
  clear hat hD hD0
  simp only [EntV.cells]
  go_enter Tryd.func61, Tryd.ntmps61
  go_wp2
  go_returns
  exact ⟨rfl, (Below.refl _ _).alloc (Nat.le_refl _) _⟩
set_option maxRecDepth 100000 in
theorem at_out (w : World) (base q : Nat) (v : Value) (es : List EntV) (hD : DictAt w base q v es) (hel : es.length ≤ 1000000000) (i : Int) (hi : i < 0 ∨ (es.length : Int) ≤ i) :
    Calls Tryd.prog 61 #[.pointer (some ⟨q, 0, none⟩), .int .i64 i] w fun e w' => e = .returned (.tuple #[.agg #[.string ⟨#[]⟩, .int .i64 0, .int .i64 0, .int .i64 0, .int .i64 0], .bool false]) ∧ Below w.heap.size w w' := by
  have hD0 : DictAt (w.alloc (.cells #[.string ⟨#[]⟩, .int .i64 0, .int .i64 0, .int .i64 0, .int .i64 0] 116)) base q v es := hD.below ((Below.refl _ _).alloc (Nat.le_refl _) _) (Nat.le_refl _)
  obtain ⟨a, c, rfl, hc, hat⟩ := hD0.sl
  clear hat hD hD0
  by_cases h0 : i < 0
  · have t1 : decide (i < 0) = true := decide_eq_true h0
    clear hi
    go_enter Tryd.func61, Tryd.ntmps61
    go_wp2
    go_returns
    exact ⟨rfl, (Below.refl _ _).alloc (Nat.le_refl _) _⟩
  · have t1 : decide (i < 0) = false := decide_eq_false h0
    have t2 : decide ((es.length : Int) ≤ i) = true := decide_eq_true (by omega)
    clear hi
    go_enter Tryd.func61, Tryd.ntmps61
    go_wp2
    go_returns
    exact ⟨rfl, (Below.refl _ _).alloc (Nat.le_refl _) _⟩

/-- The chapter's two entries. -/
def twoE : List EntV := [⟨⟨#[97, 98]⟩, 1, 2, 0, 5⟩, ⟨⟨#[97, 98, 100]⟩, 1, 1, 5, 130⟩]
theorem strOf_beq (a b : List UInt8) : ((strOf a).toList == (strOf b).toList) = (a == b) := by rw [strOf_toList, strOf_toList]
/-! ### The chapter's example, plain -/
theorem two_ok : ∀ e ∈ twoE, entOk e = true := by
  intro e he
  simp only [twoE, List.mem_cons, List.not_mem_nil, or_false] at he
  rcases he with rfl | rfl <;> decide
theorem two_rising : rising none twoE := ⟨rfl, by decide, trivial⟩
theorem uvar130 : uvar 130 = [130, 1] := by rw [uvar_big (by decide), uvar_small (by decide)]; rfl
theorem two_image : imageB twoE = [2, 16, 0, 2, 97, 98, 1, 2, 0, 5, 2, 1, 100, 1, 1, 5, 130, 1] := by
  have e1 : chk twoE = [twoE] := by
    rw [chk_cons (by unfold twoE; simp), show twoE.take 16 = twoE from rfl, show twoE.drop 16 = [] from rfl, chk_nil]
  have e2 : blkB [] twoE = [0, 2, 97, 98, 1, 2, 0, 5, 2, 1, 100, 1, 1, 5, 130, 1] := by
    show entB [] ⟨⟨#[97, 98]⟩, 1, 2, 0, 5⟩ ++ (entB [97, 98] ⟨⟨#[97, 98, 100]⟩, 1, 1, 5, 130⟩ ++ []) = _
    unfold entB EntV.K
    simp only [show shr [] [97, 98] = 0 from rfl, show shr [97, 98] [97, 98, 100] = 2 from rfl]
    rw [show Int.toNat 130 = 130 from rfl, uvar130, show Int.toNat 0 = 0 from rfl, show Int.toNat 1 = 1 from rfl, show Int.toNat 2 = 2 from rfl, show Int.toNat 5 = 5 from rfl]
    simp [uvar_small]
  unfold imageB
  rw [e1]
  simp only [List.flatMap_cons, List.flatMap_nil, e2]
  rw [show twoE.length = 2 from rfl, uvar_small (by decide), uvar_small (by decide)]
  rfl
end Go.Proofs.YtejmjjgbbojfbaaDoor

/- Heads, plain: the keys that begin with a head stand together, from seekP on. No program occurs here. -/
namespace Go.Proofs.YtejmjjgbbojfbaaDoor
set_option linter.unusedVariables false

/-- Does K begin with k? -/
def pre (k K : List UInt8) : Bool := decide (k.length ≤ K.length) && (K.take k.length == k)
theorem pre_iff (k K : List UInt8) : pre k K = true ↔ ∃ s, K = k ++ s := by
  unfold pre
  rw [Bool.and_eq_true, decide_eq_true_eq, beq_iff_eq]
  constructor
  · rintro ⟨_, h⟩
    exact ⟨K.drop k.length, by conv => lhs; rw [← List.take_append_drop k.length K, h]⟩
  · rintro ⟨s, rfl⟩
    exact ⟨by rw [List.length_append]; omega, List.take_left⟩
theorem bl_pre : ∀ k s : List UInt8, Go.Op.bytesLess (k ++ s) k = false
  | [], s => by cases s <;> rfl
  | x :: k, s => by
    have h : ¬ x < x := fun h => by have := UInt8.lt_iff_toNat_lt.1 h; omega
    rw [List.cons_append]
    unfold Go.Op.bytesLess
    simp [h, bl_pre k s]
theorem pre_between : ∀ k a r : List UInt8, Go.Op.bytesLess a k = false → Go.Op.bytesLess a (k ++ r) = true → ∃ s, a = k ++ s
  | [], a, _, _, _ => ⟨a, rfl⟩
  | x :: k, [], _, h, _ => by simp [Go.Op.bytesLess] at h
  | x :: k, y :: a, r, h, g => by
    rw [List.cons_append] at g
    unfold Go.Op.bytesLess at h g
    simp only [Bool.or_eq_false_iff, Bool.or_eq_true, Bool.and_eq_true, decide_eq_true_eq, decide_eq_false_iff_not, beq_iff_eq] at h g
    obtain ⟨h1, h2⟩ := h
    rcases g with g | ⟨g1, g2⟩
    · exact absurd g h1
    · subst g1
      have h3 : Go.Op.bytesLess a k = false := by simpa using h2
      obtain ⟨s, hs⟩ := pre_between k a r h3 g2
      exact ⟨s, by rw [hs]; rfl⟩
theorem pre_bl {k K : List UInt8} (h : pre k K = true) : Go.Op.bytesLess K k = false := by
  obtain ⟨s, rfl⟩ := (pre_iff k K).1 h
  exact bl_pre k s
/-- How many entries' keys begin with k. -/
def headsN (es : List EntV) (k : List UInt8) : Nat := ((es.drop (seekP es k)).takeWhile fun e => pre k e.K).length
theorem headsN_le (es : List EntV) (k : List UInt8) : seekP es k + headsN es k ≤ es.length := by
  have h := seekP_le es k
  have h2 := (List.takeWhile_sublist (fun e : EntV => pre k e.K) (l := es.drop (seekP es k))).length_le
  rw [List.length_drop] at h2
  unfold headsN; omega
theorem tw_lt {p : EntV → Bool} : ∀ (l : List EntV) (t : Nat) (h : t < l.length), t < (l.takeWhile p).length → p l[t] = true
  | [], _, h, _ => by simp at h
  | e :: r, t, h, ht => by
    cases he : p e with
    | false => rw [List.takeWhile_cons_of_neg (by simp [he])] at ht; simp at ht
    | true =>
      rw [List.takeWhile_cons_of_pos (by simp [he])] at ht
      cases t with
      | zero => exact he
      | succ t => exact tw_lt r t (by simpa using h) (by simpa using ht)
theorem tw_at {p : EntV → Bool} : ∀ (l : List EntV) (h : (l.takeWhile p).length < l.length), p l[(l.takeWhile p).length] = false
  | [], h => by simp at h
  | e :: r, h => by
    cases he : p e with
    | false =>
      have e0 : ((e :: r).takeWhile p).length = 0 := by rw [List.takeWhile_cons_of_neg (by simp [he])]; rfl
      simp only [e0]; exact he
    | true =>
      have e0 : ((e :: r).takeWhile p).length = (r.takeWhile p).length + 1 := by rw [List.takeWhile_cons_of_pos (by simp [he])]; rfl
      simp only [e0]
      exact tw_at r (by rw [e0] at h; simpa using h)
theorem heads_low (es : List EntV) (k : List UInt8) (t : Nat) (h : t < es.length) (ht : t < seekP es k) : pre k es[t].K = false := by
  cases hp : pre k es[t].K with
  | false => rfl
  | true => have := pre_bl hp; rw [seekP_lt es k t h ht] at this; cases this
theorem heads_in (es : List EntV) (k : List UInt8) (t : Nat) (h : t < es.length) (h1 : seekP es k ≤ t) (h2 : t < seekP es k + headsN es k) : pre k es[t].K = true := by
  have g := tw_lt (p := fun e => pre k e.K) (es.drop (seekP es k)) (t - seekP es k) (by rw [List.length_drop]; omega) (by unfold headsN at h2; omega)
  rw [List.getElem_drop] at g
  simpa only [show seekP es k + (t - seekP es k) = t by omega] using g
theorem heads_out {es : List EntV} (hr : rising none es) (k : List UInt8) (t : Nat) (h : t < es.length) (h2 : seekP es k + headsN es k ≤ t) : pre k es[t].K = false := by
  have hlt : ((es.drop (seekP es k)).takeWhile fun e => pre k e.K).length < (es.drop (seekP es k)).length := by
    rw [List.length_drop]; unfold headsN at h2; omega
  have g := tw_at (p := fun e => pre k e.K) (es.drop (seekP es k)) hlt
  rw [List.getElem_drop] at g
  have g : pre k (es[seekP es k + headsN es k]'(by omega)).K = false := g
  rcases Nat.lt_or_eq_of_le h2 with h3 | h3
  · cases hp : pre k es[t].K with
    | false => rfl
    | true =>
      obtain ⟨r, he⟩ := (pre_iff _ _).1 hp
      have h4 := rising_lt hr _ t h h3
      rw [he] at h4
      have h5 := (pre_iff k _).2 (pre_between k _ r (seekP_ge hr k _ (by omega) (by omega)) h4)
      rw [g] at h5; cases h5
  · simp only [h3] at g; exact g
/-- Find is the first entry of this key. -/
theorem find_at {es : List EntV} (hr : rising none es) (k : List UInt8) (i : Nat) (h : i < es.length) (he : es[i].K = k) : findP es k = (i, true) := by
  have hs : seekP es k = i := by
    rcases Nat.lt_trichotomy (seekP es k) i with h1 | h1 | h1
    · have h2 := rising_lt hr _ i h h1
      rw [he, seekP_at es k (by omega)] at h2; cases h2
    · exact h1
    · have h2 := seekP_lt es k i h h1
      rw [he, bl_irrefl] at h2; cases h2
  unfold findP
  rw [dif_pos (by omega)]
  simp only [hs]
  rw [if_pos he]
theorem find_not {es : List EntV} (k : List UInt8) (hn : ∀ i (h : i < es.length), es[i].K ≠ k) : findP es k = (0, false) := by
  unfold findP
  split
  · next h => rw [if_neg (hn _ h)]
  · rfl
theorem ext_take (s : ByteArray) (u : Nat) : (s.extract 0 u).toList = s.data.toList.take u := by
  rw [ba_list, ByteArray.data_extract]; simp
theorem pre_yes {k K : List UInt8} (h : pre k K = true) : k.length ≤ K.length ∧ (K.take k.length == k) = true := by
  unfold pre at h
  rw [Bool.and_eq_true, decide_eq_true_eq] at h; exact h
theorem pre_no {k K : List UInt8} (h : pre k K = false) (hl : k.length ≤ K.length) : (K.take k.length == k) = false := by
  unfold pre at h
  rw [decide_eq_true hl, Bool.true_and] at h; exact h
end Go.Proofs.YtejmjjgbbojfbaaDoor
