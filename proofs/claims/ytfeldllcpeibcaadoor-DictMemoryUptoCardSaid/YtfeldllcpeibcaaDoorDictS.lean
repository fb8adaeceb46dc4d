/- dict: sort.Search; Seek, Find, Len, At. -/
import Derived.Test.YtfeldllcpeibcaaDoorDictW
namespace Go.Proofs.YtfeldllcpeibcaaDoor
set_option linter.unusedVariables false
open Go.ChangeShapes Go.WideShapes Go.ChangeAt Go.RowKit

set_option maxRecDepth 100000 in
set_option maxHeartbeats 1000000 in
theorem search_any (G : FuncId) (cb : Array Value) (n b : Nat) (p : Nat → Bool) (w : World) (eg : ∀ args w, (callFunc G args).run Tryd.prog w = .ok (.enter G args) w) (hn : n ≤ 1000000000)
    (hf : ∀ m i, i < n → Calls Tryd.prog G (#[.int .i64 i] ++ cb) (w.drewN m) fun e w' => e = .returned (.bool (p i)) ∧ ∃ q, w' = w.drewN q) (hb : b ≤ n) (h0 : ∀ t, t < b → p t = false) (h1 : ∀ t, b ≤ t → t < n → p t = true) :
    Calls Tryd.prog 54 #[.int .i64 n, .func (.func G) #[] cb] w fun e w' => e = .returned (.int .i64 b) ∧ ∃ q, w' = w.drewN q := by
  have HF := Lib.hid hf
  have H0 := Lib.hid h0
  have H1 := Lib.hid h1
  clear hf h0 h1
  go_enter Tryd.func54, Tryd.ntmps54
  go_wp2
  go_loopw [5, 6] (fun s5 s6 wr => ∃ (lo hi d : Nat), s5 = .int .i64 lo ∧ s6 = .int .i64 hi ∧ lo ≤ b ∧ b ≤ hi ∧ hi ≤ n ∧ wr = w.drewN d) (fun s5 s6 _ => (intOf s6).toNat - (intOf s5).toNat)
  case atStart => exact ⟨0, n, 0, rfl, rfl, Nat.zero_le _, hb, Nat.le_refl _, rfl⟩
  case round =>
    obtain ⟨lo, hi, d, rfl, rfl, hl, hh, hhn, rfl⟩ := hrel
    by_cases hlt : lo < hi
    · have hc := HF.out d ((lo + hi) / 2) (by omega)
      rw [show (((lo + hi) / 2 : Nat) : Int) = ((lo : Int) + (hi : Int)) / 2 by omega] at hc
      by_cases hp : (lo + hi) / 2 < b
      · rw [H0.out _ hp] at hc
        go_wp2_with fail
        refine hc.mono ?_
        rintro e w' ⟨rfl, q, rfl⟩
        clear hc
        go_wp2
        go_roundw
        case rel => exact ⟨(lo + hi) / 2 + 1, hi, q, by rw [show ((lo : Int) + (hi : Int)) / 2 + 1 = (((lo + hi) / 2 + 1 : Nat) : Int) by omega], rfl, hp, hh, hhn, rfl⟩
        case measure => simp [intOf]; omega
      · rw [H1.out _ (by omega) (by omega)] at hc
        go_wp2_with fail
        refine hc.mono ?_
        rintro e w' ⟨rfl, q, rfl⟩
        clear hc
        go_wp2
        go_roundw
        case rel => exact ⟨lo, (lo + hi) / 2, q, rfl, by rw [show ((lo : Int) + (hi : Int)) / 2 = (((lo + hi) / 2 : Nat) : Int) by omega], hl, by omega, by omega, rfl⟩
        case measure => simp [intOf]; omega
    · obtain rfl : lo = b := by omega
      go_wp2
      go_ret
      exact ⟨rfl, d, rfl⟩

/-! ### Keys in order -/
theorem bl_trans : ∀ a b c : List UInt8, Go.Op.bytesLess a b = true → Go.Op.bytesLess b c = true → Go.Op.bytesLess a c = true
  | [], [], c, h, _ => by simp [Go.Op.bytesLess] at h
  | [], b :: bs, [], _, h => by simp [Go.Op.bytesLess] at h
  | [], b :: bs, c :: cs, _, _ => rfl
  | a :: xs, [], c, h, _ => by simp [Go.Op.bytesLess] at h
  | a :: xs, b :: ys, [], _, h => by simp [Go.Op.bytesLess] at h
  | a :: xs, b :: ys, c :: zs, h, k => by
    unfold Go.Op.bytesLess at *
    simp only [Bool.or_eq_true, Bool.and_eq_true, decide_eq_true_eq, beq_iff_eq] at *
    rcases h with h | ⟨rfl, h⟩
    · rcases k with k | ⟨rfl, k⟩
      · left; have h1 := UInt8.lt_iff_toNat_lt.1 h; have h2 := UInt8.lt_iff_toNat_lt.1 k; exact UInt8.lt_iff_toNat_lt.2 (by omega)
      · left; exact h
    · rcases k with k | ⟨rfl, k⟩
      · left; exact k
      · right; exact ⟨rfl, bl_trans xs ys zs h k⟩
theorem bl_irrefl : ∀ a : List UInt8, Go.Op.bytesLess a a = false
  | [] => rfl
  | a :: xs => by
    unfold Go.Op.bytesLess
    have h : ¬ a < a := fun k => by have := UInt8.lt_iff_toNat_lt.1 k; omega
    simp [h, bl_irrefl xs]
theorem rising_lt {es : List EntV} (h : rising none es) : ∀ (i j : Nat) (hj : j < es.length) (hij : i < j), Go.Op.bytesLess (es[i]'(by omega)).K es[j].K = true := by
  intro i j
  induction j with
  | zero => intro _ h; omega
  | succ j ih =>
    intro hj hij
    have h1 := (rising_none es).1 h j hj
    rcases Nat.lt_or_eq_of_le (Nat.lt_succ_iff.1 hij) with h2 | h2
    · exact bl_trans _ _ _ (ih (by omega) h2) h1
    · subst h2; exact h1
/-- How many keys are less than k. -/
def seekP (es : List EntV) (k : List UInt8) : Nat := (es.takeWhile fun e => Go.Op.bytesLess e.K k).length
theorem seekP_le (es : List EntV) (k : List UInt8) : seekP es k ≤ es.length := by unfold seekP; exact (List.takeWhile_sublist _).length_le
theorem seekP_lt : ∀ (es : List EntV) (k : List UInt8) (t : Nat) (h : t < es.length), t < seekP es k → Go.Op.bytesLess es[t].K k = true
  | [], _, _, h, _ => by simp at h
  | e :: r, k, t, h, ht => by
    unfold seekP at ht
    cases he : Go.Op.bytesLess e.K k with
    | false => rw [List.takeWhile_cons_of_neg (by simp [he])] at ht; simp at ht
    | true =>
      rw [List.takeWhile_cons_of_pos (by simp [he])] at ht
      cases t with
      | zero => exact he
      | succ t => exact seekP_lt r k t (by simpa using h) (by simpa [seekP] using ht)
theorem seekP_at : ∀ (es : List EntV) (k : List UInt8) (h : seekP es k < es.length), Go.Op.bytesLess es[seekP es k].K k = false
  | [], _, h => by simp at h
  | e :: r, k, h => by
    cases he : Go.Op.bytesLess e.K k with
    | false =>
      have e0 : seekP (e :: r) k = 0 := by unfold seekP; rw [List.takeWhile_cons_of_neg (by simp [he])]; rfl
      simp only [e0]; exact he
    | true =>
      have e0 : seekP (e :: r) k = seekP r k + 1 := by unfold seekP; rw [List.takeWhile_cons_of_pos (by simp [he])]; rfl
      simp only [e0]
      exact seekP_at r k (by rw [e0] at h; simpa using h)
theorem seekP_ge {es : List EntV} (hr : rising none es) (k : List UInt8) (t : Nat) (h : t < es.length) (ht : seekP es k ≤ t) : Go.Op.bytesLess es[t].K k = false := by
  have h1 := seekP_at es k (by omega)
  rcases Nat.lt_or_eq_of_le ht with h2 | h2
  · cases hb : Go.Op.bytesLess es[t].K k with
    | false => rfl
    | true => have := bl_trans _ _ _ (rising_lt hr _ t h h2) hb; rw [h1] at this; cases this
  · subst h2; exact h1
def keyAt (es : List EntV) (i : Nat) : ByteArray := (es[i]?.map EntV.k).getD ⟨#[]⟩
theorem keyAt_eq (es : List EntV) (i : Nat) (h : i < es.length) : keyAt es i = es[i].k := by unfold keyAt; rw [List.getElem?_eq_getElem h]; rfl

/-- A dictionary's entries, as its methods read them. -/
theorem DictAt.sl {w : World} {base q : Nat} {v : Value} {es : List EntV} (h : DictAt w base q v es) : ∃ a c, v = .slice a es.length c ∧ w.cell? ⟨q, 0, none⟩ = some (.slice a es.length c) ∧ (∀ i (hi : i < es.length), ∃ g, a = some ⟨g, 0, none⟩ ∧ EntAt w g (i * 5) es[i]) := by
  obtain ⟨a, c, rfl⟩ := h.row.sl
  exact ⟨a, c, rfl, h.c0, fun i hi => by
    obtain ⟨g, e, _, _, _, hat⟩ := h.row.head (by omega)
    exact ⟨g, e, hat i hi⟩⟩

set_option maxRecDepth 100000 in
theorem seekc_any (W : World) (base q bd bk : Nat) (v : Value) (es : List EntV) (hD : DictAt W base q v es) (key : ByteArray) (hd : W.cell? ⟨bd, 0, none⟩ = some (.pointer (some ⟨q, 0, none⟩))) (hk : W.cell? ⟨bk, 0, none⟩ = some (.string key)) (i : Nat) (hi : i < es.length) (hel : es.length ≤ 1000000000) :
    Calls Tryd.prog 55 #[.int .i64 i, .pointer (some ⟨bd, 0, none⟩), .pointer (some ⟨bk, 0, none⟩)] W fun e w' => e = .returned (.bool (!Go.Op.bytesLess (keyAt es i).data.toList key.data.toList)) ∧ ∃ m, w' = W.drewN m := by
  obtain ⟨a, c, rfl, hc, hat⟩ := hD.sl
  obtain ⟨g, rfl, hg⟩ := hat i hi
  have hgk := hg.k
  rw [← keyAt_eq es i hi] at hgk
  generalize keyAt es i = ky at hgk ⊢
  have i1 : (i : Int) < (es.length : Int) := by omega
  have tk := ba_list ky
  have tk2 := ba_list key
  rw [← tk, ← tk2]
  clear tk tk2 hg hat hD
  go_enter Tryd.func55, Tryd.ntmps55
  go_wp2
  go_quiet (fail)
  go_wp2
  go_ret
  exact ⟨rfl, _, rfl⟩

set_option maxRecDepth 100000 in
theorem seek_any (w : World) (base q : Nat) (v : Value) (es : List EntV) (hD : DictAt w base q v es) (hr : rising none es) (hel : es.length ≤ 1000000000) (key : ByteArray) :
    Calls Tryd.prog 28 #[.pointer (some ⟨q, 0, none⟩), .string key] w fun e w' => e = .returned (.int .i64 (seekP es key.data.toList : Nat)) ∧ Below w.heap.size w w' := by
  have hmf : ∀ (fn : Fn) (first cap : Array Value) (w : World), (Instr.makeFunc fn first cap).run Tryd.prog w = .ok (.func fn first cap) w := fun _ _ _ _ => rfl
  obtain ⟨w2, hw2⟩ : ∃ w2, w2 = (w.alloc (.cells #[.pointer (some ⟨q, 0, none⟩)] 24)).alloc (.cells #[.string key] 9) := ⟨_, rfl⟩
  have hb2 : Below w.heap.size w w2 := by rw [hw2]; exact ((Below.refl _ _).alloc (Nat.le_refl _) _).alloc (by simp) _
  have hD2 := hD.below hb2 (Nat.le_refl _)
  have c1 : w2.cell? ⟨w.heap.size, 0, none⟩ = some (.pointer (some ⟨q, 0, none⟩)) := by rw [hw2]; exact blk_cell ((Below.heap_alloc _ _ _ (by simp)).trans (heap_alloc_new w _)) 0
  have c2 : w2.cell? ⟨w.heap.size + 1, 0, none⟩ = some (.string key) := by
    rw [hw2]; have := heap_alloc_new (w.alloc (.cells #[.pointer (some ⟨q, 0, none⟩)] 24)) (.cells #[.string key] 9); rw [World.size_alloc] at this; exact blk_cell this 0
  obtain ⟨a, c, rfl, hc, hat⟩ := hD2.sl
  have C1 := search_any 55 #[.pointer (some ⟨w.heap.size, 0, none⟩), .pointer (some ⟨w.heap.size + 1, 0, none⟩)] es.length (seekP es key.data.toList) (fun i => !Go.Op.bytesLess (keyAt es i).data.toList key.data.toList) w2 (fun args w => by
      have h1 : Tryd.prog.funcs[(55 : Nat)]? = some Tryd.f55 := by kernel_rfl
      simp [callFunc, h1, mark]; first | rfl | (kernel_rfl)) hel
    (fun m i hi => (seekc_any (w2.drewN m) base q w.heap.size (w.heap.size + 1) _ es (hD2.drewN m) key c1 c2 i hi hel).mono (fun _ _ ⟨he, n, hn⟩ => ⟨he, m + n, by rw [hn, World.drewN_drewN]⟩))
    (seekP_le _ _) (fun t ht => by rw [keyAt_eq es t (by have := seekP_le es key.data.toList; omega)]; have := seekP_lt es key.data.toList t (by have := seekP_le es key.data.toList; omega) ht; unfold EntV.K at this; rw [this]; rfl)
    (fun t h1 h2 => by rw [keyAt_eq es t h2]; have := seekP_ge hr key.data.toList t h2 h1; unfold EntV.K at this; rw [this]; rfl)
  obtain ⟨r, hr'⟩ : ∃ r, seekP es key.data.toList = r := ⟨_, rfl⟩
  rw [hr'] at C1 ⊢
  have HB2 := Lib.hid hb2
  have HW2 := Lib.hid hw2
  rw [hw2] at C1 hc
  clear hat hb2 c1 c2 hD hD2 hr hr' hw2
  go_enter Tryd.func28, Tryd.ntmps28
  go_wp2_with fail
  refine C1.mono ?_
  rintro e w3 ⟨rfl, d, rfl⟩
  rw [← HW2.out]
  go_wp2
  go_ret
  exact ⟨rfl, below_drewN HB2.out d⟩

set_option maxRecDepth 100000 in
theorem dlen_any (w : World) (base q : Nat) (v : Value) (es : List EntV) (hD : DictAt w base q v es) :
    Calls Tryd.prog 12 #[.pointer (some ⟨q, 0, none⟩)] w fun e w' => e = .returned (.int .i64 (es.length : Nat)) ∧ w = w' := by
  obtain ⟨a, c, rfl, hc, _⟩ := hD.sl
  clear hD
  go_enter Tryd.func12, Tryd.ntmps12
  go_wp2
  go_ret
  exact ⟨rfl, rfl⟩
/-- What Find answers. -/
def findP (es : List EntV) (k : List UInt8) : Nat × Bool := if h : seekP es k < es.length then if es[seekP es k].K = k then (seekP es k, true) else (0, false) else (0, false)
set_option maxRecDepth 100000 in
set_option maxHeartbeats 1000000 in
theorem find_any (w : World) (base q : Nat) (v : Value) (es : List EntV) (hD : DictAt w base q v es) (hr : rising none es) (hel : es.length ≤ 1000000000) (key : ByteArray) :
    Calls Tryd.prog 27 #[.pointer (some ⟨q, 0, none⟩), .string key] w fun e w' => e = .returned (.tuple #[.int .i64 ((findP es key.data.toList).1 : Nat), .bool (findP es key.data.toList).2]) ∧ Below w.heap.size w w' := by
  have C1 := seek_any w base q v es hD hr hel key
  have hfp : ∀ r, findP es key.data.toList = r → findP es key.data.toList = r := fun _ h => h
  obtain ⟨s, hs⟩ : ∃ s, seekP es key.data.toList = s := ⟨_, rfl⟩
  have hf : findP es key.data.toList = if h : s < es.length then if es[s].K = key.data.toList then (s, true) else (0, false) else (0, false) := by subst hs; rfl
  rw [hs] at C1
  have HD := Lib.hid hD
  have HF := Lib.hid hf
  clear hfp hs hf hr hD
  go_enter Tryd.func27, Tryd.ntmps27
  go_wp2_with fail
  refine C1.mono ?_
  rintro e w1 ⟨rfl, hb⟩
  clear C1
  obtain ⟨a, c, rfl, hc, hat⟩ := (HD.out.below hb (Nat.le_refl _)).sl
  have HB := Lib.hid hb
  clear hb
  by_cases hlt : s < es.length
  · obtain ⟨g, rfl, hg⟩ := hat s hlt
    have hgk := hg.k
    have hkk : es[s].K = (es[s].k).data.toList := rfl
    have hff := HF.out
    rw [dif_pos hlt, hkk] at hff
    generalize es[s].k = ky at hgk hff
    have i1 : (s : Int) < (es.length : Int) := by omega
    have tl : decide (s < es.length) = true := decide_eq_true hlt
    by_cases he : ky.data.toList = key.data.toList
    · rw [if_pos he] at hff
      have te : (ky.toList == key.toList) = true := by rw [ba_list, ba_list, he]; simp
      have HFF := Lib.hid hff
      clear hff he hg hat hkk hlt
      go_wp2
      go_ret2
      rw [HFF.out]
      exact ⟨rfl, HB.out⟩
    · rw [if_neg he] at hff
      have te : (ky.toList == key.toList) = false := by rw [ba_list, ba_list]; simpa using he
      have HFF := Lib.hid hff
      clear hff he hg hat hkk hlt
      go_wp2
      go_ret2
      rw [HFF.out]
      exact ⟨rfl, HB.out⟩
  · have hff := HF.out
    rw [dif_neg hlt] at hff
    have tl : decide (s < es.length) = false := decide_eq_false hlt
    have HFF := Lib.hid hff
    clear hff hat hlt
    go_wp2
    go_ret2
    rw [HFF.out]
    exact ⟨rfl, HB.out⟩
end Go.Proofs.YtfeldllcpeibcaaDoor
