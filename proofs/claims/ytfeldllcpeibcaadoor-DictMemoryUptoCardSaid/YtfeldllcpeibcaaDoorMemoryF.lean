/- DictMemory: the walk. -/
import Derived.Test.YtfeldllcpeibcaaDoorApEs
import Derived.Test.YtfeldllcpeibcaaDoorOwn
import Derived.Test.YtfeldllcpeibcaaDoorFixed6
import Derived.Test.YtfeldllcpeibcaaDoorRef6G
import Derived.Test.YtfeldllcpeibcaaDoorAnsSz
import Derived.Test.YtfeldllcpeibcaaDoorWalked
import Derived.Deep.RegionHeld3
namespace Go.Proofs.YtfeldllcpeibcaaDoor
set_option linter.unusedVariables false
open Go.ChangeShapes Go.WideShapes Go.ChangeAt Go.RowKit

theorem BuildPost.any {w : World} {EA : Nat → Addr} {es : List EntV} {e : Ending} {w' : World} (h : BuildPost w EA es e w') : ∃ A N C E, e = .returned (.tuple #[.slice A N C, E]) ∧ Below w.heap.size w w' ∧
    (((∀ x ∈ es, entOk x = true) ∧ rising none es ∧ E = .nilIface ∧ Own w' w.heap.size 5 (.slice A N C) (bytesV (imageB es))) ∨ ((∀ x ∈ es, entOk x = true) ∧ ¬ rising none es ∧ E = errV EA 4) ∨ (¬ (∀ x ∈ es, entOk x = true) ∧ E = errV EA 3)) := by
  by_cases ok : ∀ x ∈ es, entOk x = true
  · by_cases hr : rising none es
    · obtain ⟨v', he, ho, hb⟩ := h.1 ok hr
      obtain ⟨A, N, C, rfl⟩ := own_sl ho
      exact ⟨A, N, C, _, he, hb, .inl ⟨ok, hr, rfl, ho⟩⟩
    · obtain ⟨he, hb⟩ := h.2.1 ok hr
      exact ⟨none, 0, 0, _, he, hb, .inr (.inl ⟨ok, hr, rfl⟩)⟩
  · obtain ⟨he, hb⟩ := h.2.2 ok
    exact ⟨none, 0, 0, _, he, hb, .inr (.inr ⟨ok, rfl⟩)⟩
/-- What Build and the document's Build answer of entries that may be: alike. -/
theorem both_build (EA : Nat → Addr) {es : List EntV} (ok : ∀ x ∈ es, entOk x = true) : ∃ (k : Nat) (bs : List UInt8) (E : Value),
    (∀ w e w', RbPost w es e w' → ∃ A N C, e = .returned (.tuple #[.slice A N C, .int .i64 (k : Nat)]) ∧ Rd w' (.slice A N C) (bytesV bs) ∧ Below w.heap.size w w') ∧
    (∀ w e w', BuildPost w EA es e w' → ∃ A N C, e = .returned (.tuple #[.slice A N C, E]) ∧ Rd w' (.slice A N C) (bytesV bs) ∧ Below w.heap.size w w') ∧
    (∀ w, Sent w EA → Calls Tryd.prog 16 #[E] w fun e w' => e = .returned (.int .i64 (k : Nat)) ∧ w = w') := by
  by_cases hr : rising none es
  · refine ⟨0, imageB es, .nilIface, fun w e w' h => ?_, fun w e w' h => ?_, fun w _ => num_nil w⟩
    · obtain ⟨v', he, ho, hb⟩ := h.1 ok hr
      obtain ⟨A, N, C, rfl⟩ := own_sl ho
      exact ⟨A, N, C, he, ho.rd, hb⟩
    · obtain ⟨v', he, ho, hb⟩ := h.1 ok hr
      obtain ⟨A, N, C, rfl⟩ := own_sl ho
      exact ⟨A, N, C, he, ho.rd, hb⟩
  · refine ⟨4, [], errV EA 4, fun w e w' h => ?_, fun w e w' h => ?_, fun w hs => num_Order w EA hs⟩
    · obtain ⟨he, hb⟩ := h.2.1 ok hr
      exact ⟨none, 0, 0, he, (own_nil w' 0 0).rd, hb⟩
    · obtain ⟨he, hb⟩ := h.2.1 ok hr
      exact ⟨none, 0, 0, he, (own_nil w' 0 0).rd, hb⟩
/-- What Open and the document's Open answer of bytes: alike. -/
theorem both_open (EA : Nat → Addr) (bs : List UInt8) : ∃ (k : Nat) (E : Value),
    (∀ w e w', ROpenPost w (parseP bs) e w' → ∃ A N C, e = .returned (.tuple #[.slice A N C, .int .i64 (k : Nat)]) ∧ Below w.heap.size w w') ∧
    (∀ w e w', OpenPost w EA (parseP bs) e w' → ∃ P, e = .returned (.tuple #[.pointer P, E]) ∧ Below w.heap.size w w') ∧
    (∀ w, Sent w EA → Calls Tryd.prog 16 #[E] w fun e w' => e = .returned (.int .i64 (k : Nat)) ∧ w = w') := by
  cases hp : parseP bs with
  | some l =>
    refine ⟨0, .nilIface, fun w e w' h => ?_, fun w e w' h => ?_, fun w _ => num_nil w⟩
    · obtain ⟨a, c, he, _, hb⟩ := h.1 l rfl
      exact ⟨a, _, c, he, hb⟩
    · obtain ⟨q, v, he, _, hb⟩ := h.1 l rfl
      exact ⟨_, he, hb⟩
  | none =>
    refine ⟨10, errV EA 10, fun w e w' h => ?_, fun w e w' h => ?_, fun w hs => num_Corrupt w EA hs⟩
    · obtain ⟨he, hb⟩ := h.2 rfl
      exact ⟨none, 0, 0, he, hb⟩
    · obtain ⟨he, hb⟩ := h.2 rfl
      exact ⟨_, he, hb⟩
/-- An entry with the law's other key. -/
def zzE (e : EntV) : EntV := { e with k := ⟨#[122, 122]⟩ }
theorem zz_ok {e : EntV} (h : entOk e = true) : entOk (zzE e) = true := by
  have hn := entOk_num h
  unfold entOk zzE
  simp only [Bool.and_eq_true]
  exact ⟨rfl, hn.1, hn.2.1, hn.2.2.1, hn.2.2.2⟩
def zzU (X : List EntV) (i : Nat) : List EntV := (X.take i).map zzE ++ X.drop i
theorem zzU_len (X : List EntV) (i : Nat) (h : i ≤ X.length) : (zzU X i).length = X.length := by simp [zzU]; omega
theorem zzU_get (X : List EntV) (i : Nat) (h : i < X.length) (h2 : i < (zzU X i).length) : (zzU X i)[i] = X[i] := by
  have h3 : (zzU X i)[i]? = some X[i] := by
    unfold zzU
    rw [List.getElem?_append_right (by simp; omega)]
    simp [Nat.min_eq_left (Nat.le_of_lt h), h]
  rw [List.getElem?_eq_getElem h2] at h3
  exact Option.some.inj h3
theorem zzU_set (X : List EntV) (i : Nat) (h : i < X.length) : (zzU X i).set i (zzE X[i]) = zzU X (i + 1) := by
  unfold zzU
  rw [List.set_append_right _ _ (by simp; omega)]
  rw [List.take_succ_eq_append_getElem h, List.map_append, List.append_assoc]
  congr 1
  simp only [List.length_map, List.length_take, Nat.min_eq_left (Nat.le_of_lt h), Nat.sub_self]
  rw [List.drop_eq_getElem_cons h]
  rfl
theorem zzU_all (X : List EntV) (i : Nat) (h : X.length ≤ i) : zzU X i = X.map zzE := by
  unfold zzU; rw [List.take_of_length_le h, List.drop_of_length_le h, List.append_nil]
theorem image_small {l : List EntV} (h : l.length ≤ 174762) (ok : ∀ e ∈ l, entOk e = true) : (imageB l).length ≤ 24000000 - 100 := by
  obtain ⟨h1, h2⟩ := chk_most _ l (Nat.le_refl _) (by omega) ok
  have := (uvar_le l.length (by omega)).2
  unfold imageB
  rw [List.length_append, List.length_append]; omega
theorem own_head {w : World} {base : Nat} {e : TypeId} {a : Option Addr} {n c : Nat} {xs : List Value} (h : Own w base e (.slice a n c) xs) (k : Nat) (hk : k ≤ xs.length) : Own w base e (.slice a k c) (xs.take k) := by
  rcases h with ⟨hv, h0⟩ | ⟨g, cap, cur, hv, hb, hg, hl, hc, hm, ht⟩
  · injection hv with h1 h2 h3
    subst h1 h3 h0
    have : k = 0 := by simpa using hk
    subst this
    exact .inl ⟨rfl, by simp⟩
  · injection hv with h1 h2 h3
    subst h1 h3
    have hkl : (xs.take k).length = k := by rw [List.length_take]; omega
    exact .inr ⟨g, c, cur, by rw [hkl], hb, hg, by omega, hc, hm, by rw [hkl, ← ht, List.take_take, Nat.min_eq_left hk]⟩
theorem ownB (a : Option Addr) (n n' c c' : Nat) : (Value.slice a n c).ownBlock = (Value.slice a n' c').ownBlock := by cases a <;> rfl
theorem RowE.blk {w : World} {base g n c : Nat} {es : List EntV} (h : RowE w base (.slice (some ⟨g, 0, none⟩) n c) es) : ∃ cur, w.heap[g]? = some (.cells cur 32 (0, 0)) := by
  rcases h.2 with ⟨hv, _⟩ | ⟨g', cap, cur, hv, _, hgg, _⟩
  · cases hv
  · injection hv with h1; injection h1 with h1; injection h1 with h1; subst h1; exact ⟨cur, hgg⟩
theorem xor_u8 (a b : Int) : ∃ y : UInt8, bits .xor .u8 a b = ((y.toNat : Nat) : Int) := by
  have h : bits .xor .u8 a b = IntKind.u8.wrap (((BitVec.ofInt 8 a ^^^ BitVec.ofInt 8 b).toNat : Nat) : Int) := rfl
  refine ⟨UInt8.ofNat (BitVec.ofInt 8 a ^^^ BitVec.ofInt 8 b).toNat, ?_⟩
  rw [h, IntKind.wrap_u8, u8_ofNat]
set_option maxRecDepth 100000 in
set_option maxHeartbeats 16000000 in
theorem dictMemory_walk (W : World) (a : Option Addr) (n c : Nat) (es : List EntV) (hl : RdEnt W a n es) (hnc : n ≤ c) (hel : es.length ≤ 174762) (EA : Nat → Addr) (hS : Sent W EA) :
    Calls Tryd.prog 6 #[.slice a n c] W fun e W' => e = .returned (.bool true) ∧ Below W.heap.size W W' := by
  obtain rfl := hl.1
  have C1 := fixed_any W EA hS
  have HS := Lib.hid hS
  have HL := Lib.hid hl
  clear hS hl
  go_enter Tryd.func6, Tryd.ntmps6
  go_wp2_with fail
  refine C1.mono ?_
  rintro e w1 ⟨rfl, hb1⟩
  clear C1
  obtain ⟨w2, hmk, hrow2, hb2⟩ := make_ents w1 (es.length + 3) (by omega) ((es.length : Int) + 3) (by omega)
  have hl2 := HL.out.below (hb1.trans (hb2.mono hb1.size)) (Nat.le_refl _)
  have hz2 := hb2.size
  have hle : ([] : List EntV).length + es.length ≤ 1000000000 := by simp; omega
  have HL2 := Lib.hid hl2
  have HROW2 := Lib.hid hrow2
  have HB1 := Lib.hid hb1
  have HB2 := Lib.hid hb2
  clear hb1 hrow2 hb2 hl2
  go_wp2_with (at_builtin; with_reducible refine apEs HROW2.out HL2.out hle hz2 rfl _ _ rfl rfl rfl ?_)
  intro v3 w3 hrow3 hg3
  have hrow3 : RowE w3 w1.heap.size v3 es := hrow3
  have hb3 := HROW2.out.grown hg3 HB2.out (Nat.le_refl _)
  obtain ⟨A3, C3, rfl⟩ := hrow3.sl
  have C4 := two_any w3
  have HROW3 := Lib.hid hrow3
  have HB3 := Lib.hid hb3
  clear hrow3 hg3 hb3 hmk hz2 hle HROW2 HB2
  go_wp2_with fail
  refine C4.mono ?_
  rintro e w4 ⟨A4, rfl, hrd4, _, hb4⟩
  clear C4
  have hrow4 := HROW3.out.below hb4 (Nat.le_refl _)
  have hb4' := HB3.out.trans (hb4.mono HB3.out.size)
  have hz4 := hb4'.size
  have hle : es.length + twoE.length ≤ 1000000000 := by simp [twoE]; omega
  have HRD4 := Lib.hid hrd4
  have HROW4 := Lib.hid hrow4
  have HB4 := Lib.hid hb4'
  clear hrd4 hrow4 hb4 hb4' HROW3 HB3
  go_wp2_with (at_builtin; with_reducible refine apEs HROW4.out HRD4.out hle hz4 rfl _ _ rfl rfl rfl ?_)
  intro v5 w5 hrow5 hg5
  have hb5 := HROW4.out.grown hg5 HB4.out (Nat.le_refl _)
  obtain ⟨X, hX⟩ : ∃ X, es ++ twoE = X := ⟨_, rfl⟩
  have hXl : X.length = es.length + 2 := by rw [← hX]; simp [twoE]
  have hXt : X.take es.length = es := by rw [← hX]; exact List.take_left
  have hXa : ∀ (i : Nat) (h : i < es.length) (h2 : i < X.length), X[i] = es[i] := fun i h h2 => by subst hX; exact List.getElem_append_left h
  have hXb : ∀ (r : Nat) (h : r < twoE.length) (h2 : es.length + r < X.length), X[es.length + r] = twoE[r] := fun r h h2 => by
    subst hX
    rw [List.getElem_append_right (by omega)]
    congr 1
    omega
  rw [hX] at hrow5
  clear hX
  obtain ⟨A5, C5, rfl⟩ := hrow5.sl
  rw [hXl] at hrow5
  obtain ⟨g, rfl, hg1, hg2, hnc5, hat5⟩ := hrow5.head (by omega)
  have hbW5 := HB1.out.trans (hb5.mono HB1.out.size)
  have hrd5 := hrow5.rdTake es.length (by omega)
  rw [hXt] at hrd5
  have him : (∀ x ∈ es, entOk x = true) → (imageB es).length ≤ 1000000000 := fun ok => image_most (by omega) ok
  have C6 := build_any w5 (some ⟨g, 0, none⟩) es.length C5 es hrd5 (by omega) (by omega) him EA (HS.out.below hbW5).derr.r
  have hcc : (es.length : Int) ≤ (C5 : Int) := by omega
  have hWw : W.heap.size ≤ w5.heap.size := hbW5.size
  have hgW : W.heap.size ≤ g := by have := HB1.out.size; omega
  have HROW5 := Lib.hid hrow5
  have HBW5 := Lib.hid hbW5
  have HB5 := Lib.hid hb5
  have HXL := Lib.hid hXl
  have HXT := Lib.hid hXt
  have HXA := Lib.hid hXa
  have HXB := Lib.hid hXb
  have HIM := Lib.hid him
  clear hrow5 hg5 hb5 hbW5 hrd5 hXt hXa hXb him hat5 HROW4 HRD4 HB4 hle hz4
  rw [hXl]
  clear hXl
  go_wp2_with fail
  refine C6.mono ?_
  rintro e w6 h6
  clear C6
  obtain ⟨A6, N6, C6, E6, rfl, hb6, hcase⟩ := h6.any
  have hrow6 := HROW5.out.below hb6 (Nat.le_refl _)
  have hbW6 := HBW5.out.trans (hb6.mono HBW5.out.size)
  have HROW6 := Lib.hid hrow6
  have HBW6 := Lib.hid hbW6
  have HCASE := Lib.hid hcase
  have h6s := hb6.size
  have hg6 : g < w6.heap.size := Nat.lt_of_lt_of_le hg2 hb6.size
  clear h6 hb6 hrow6 hbW6 hcase
  go_wp2
  go_loopw [38] (fun s38 wr => ∃ (i : Nat), s38 = .int .i64 i ∧ i ≤ es.length + 2 ∧ Below w6.heap.size w6 wr) (fun s38 _ => es.length + 2 - (intOf s38).toNat)
  case atStart => exact ⟨0, rfl, Nat.zero_le _, Below.refl _ _⟩
  case round =>
    obtain ⟨i, rfl, hi, hb⟩ := hrel
    have hbI := HBW6.out.trans (hb.mono HBW6.out.size)
    have hrowi := HROW6.out.below hb (Nat.le_refl _)
    by_cases hlt : i < es.length + 2
    · have i1 : (i : Int) < ((es.length + 2 : Nat) : Int) := by omega
      obtain ⟨g', hg', _, _, _, hat⟩ := hrowi.head (by rw [HXL.out]; omega)
      injection hg' with hg'
      injection hg' with hg' _ _
      subst hg'
      have hati := hat i (by rw [HXL.out]; omega)
      have hgd := guard_ent
      by_cases hlt2 : i < es.length
      · rw [HXA.out i hlt2] at hati
        obtain ⟨b, o, rfl, hal⟩ := (HL.out.below hbI (Nat.le_refl _)).at_ (by omega)
        have hali := hal i hlt2
        obtain ⟨x, hx⟩ : ∃ x, es[i] = x := ⟨_, rfl⟩
        rw [hx] at hati hali
        obtain ⟨ek, ed, et, ea, es'⟩ := x
        obtain ⟨d0, d1, d2, d3, d4⟩ := hati
        obtain ⟨f0, f1, f2, f3, f4⟩ := hali
        simp only at d0 d1 d2 d3 d4 f0 f1 f2 f3 f4
        have t1 : decide (i < es.length) = true := decide_eq_true hlt2
        have t2 : decide (es.length ≤ i) = false := decide_eq_false (by omega)
        have i2 : (i : Int) < (es.length : Int) := by omega
        have heq := fun w => neq_ent w ⟨ek, ed, et, ea, es'⟩ ⟨ek, ed, et, ea, es'⟩
        rw [(entEq_iff _ _).2 rfl] at heq
        simp only [Bool.not_true] at heq
        have HB := Lib.hid hb
        clear hat hal hx hb hbI hrowi
        go_upto_region 8 with fail
        go_quiet (fail)
        clear d0 d1 d2 d3 d4 f0 f1 f2 f3 f4 heq
        go_wp2
        go_roundw
        case rel => exact ⟨i + 1, by go_num, by omega, below_drewN HB.out _⟩
        case measure => simp [intOf]; omega
      · obtain ⟨r, hr⟩ : ∃ r, es.length + r = i := ⟨i - es.length, by omega⟩
        have hr2 : r < twoE.length := by simp [twoE]; omega
        have hati2 : EntAt wr g (i * 5) twoE[r] := by
          have h9 := HXB.out r hr2 (by rw [HXL.out]; omega)
          subst hr
          rw [h9] at hati
          exact hati
        obtain ⟨x, hx⟩ : ∃ x, twoE[r] = x := ⟨_, rfl⟩
        rw [hx] at hati2
        obtain ⟨ek, ed, et, ea, es'⟩ := x
        obtain ⟨d0, d1, d2, d3, d4⟩ := hati2
        simp only at d0 d1 d2 d3 d4
        have t1 : decide (i < es.length) = false := decide_eq_false hlt2
        have t2 : decide (es.length ≤ i) = true := decide_eq_true (by omega)
        have r1 : (r : Int) < 2 := by have : twoE.length = 2 := rfl; omega
        have s1 : IntKind.i64.wrap ((i : Int) - (es.length : Int)) = (r : Int) := by rw [IntKind.wrap_i64]; omega
        have heq := fun w => neq_ent w ⟨ek, ed, et, ea, es'⟩ ⟨ek, ed, et, ea, es'⟩
        rw [(entEq_iff _ _).2 rfl] at heq
        simp only [Bool.not_true] at heq
        have CT := two_any wr.drew
        have hglt : g < wr.heap.size := Nat.lt_of_lt_of_le hg6 hb.size
        have hsx : ∀ w8, Below wr.drew.heap.size wr.drew w8 → w8.cell? ⟨g, i * 5, none⟩ = some (.string ek) ∧ w8.cell? ⟨g, i * 5 + 1, none⟩ = some (.int .i64 ed) ∧ w8.cell? ⟨g, i * 5 + 2, none⟩ = some (.int .i64 et) ∧ w8.cell? ⟨g, i * 5 + 3, none⟩ = some (.int .i64 ea) ∧ w8.cell? ⟨g, i * 5 + 4, none⟩ = some (.int .i64 es') := fun w8 h8 =>
          ⟨by rw [h8.cell (p := ⟨g, i * 5, none⟩) hglt]; exact d0, by rw [h8.cell (p := ⟨g, i * 5 + 1, none⟩) hglt]; exact d1, by rw [h8.cell (p := ⟨g, i * 5 + 2, none⟩) hglt]; exact d2, by rw [h8.cell (p := ⟨g, i * 5 + 3, none⟩) hglt]; exact d3, by rw [h8.cell (p := ⟨g, i * 5 + 4, none⟩) hglt]; exact d4⟩
        have hr8 : ∀ (w8 : World) (g8 : Nat), RdEnt w8 (some ⟨g8, 0, none⟩) 2 twoE → w8.cell? ⟨g8, r * 5, none⟩ = some (.string ek) ∧ w8.cell? ⟨g8, r * 5 + 1, none⟩ = some (.int .i64 ed) ∧ w8.cell? ⟨g8, r * 5 + 2, none⟩ = some (.int .i64 et) ∧ w8.cell? ⟨g8, r * 5 + 3, none⟩ = some (.int .i64 ea) ∧ w8.cell? ⟨g8, r * 5 + 4, none⟩ = some (.int .i64 es') := fun w8 g8 h8 => by
          obtain ⟨b, o, e, hc⟩ := h8.at_ (by decide)
          injection e with e
          injection e with e1 e2 _
          subst e1 e2
          have h9 := hc r hr2
          rw [hx, Nat.zero_add] at h9
          exact ⟨h9.k, h9.d, h9.t, h9.a, h9.s⟩
        have hbi := hb.drew
        have HSX := Lib.hid hsx
        have HR8 := Lib.hid hr8
        have HBI := Lib.hid hbi
        clear hat hati hx hb hbI hrowi hr hr2 hsx hr8 hbi hlt2 hglt
        go_upto_region 8 with fail
        refine wp_region_noPanic ?_
        refine wp_region_held_drew (S := fun w' : World => w'.cell? ⟨g, i * 5, none⟩ = some (.string ek) ∧ w'.cell? ⟨g, i * 5 + 1, none⟩ = some (.int .i64 ed) ∧ w'.cell? ⟨g, i * 5 + 2, none⟩ = some (.int .i64 et) ∧ w'.cell? ⟨g, i * 5 + 3, none⟩ = some (.int .i64 ea) ∧ w'.cell? ⟨g, i * 5 + 4, none⟩ = some (.int .i64 es')) (by kernel_rfl) ⟨d0, d1, d2, d3, d4⟩ (fun hHeld => ?_)
        clear d0 d1 d2 d3 d4
        refine wpAnyH_take (i := 0) (v := ?_) rfl (by kernel_rfl) (by kernel_rfl) (by kernel_rfl) (fun _ _ _ h => h) (Or.inl ⟨by kernel_rfl, ?_⟩) hHeld ?_
        rotate_left
        · intro w hSw; obtain ⟨y0, y1, y2, y3, y4⟩ := hSw; go_simp; try with_reducible rfl
        refine wpAnyH_take (i := 1) (v := ?_) rfl (by kernel_rfl) (by kernel_rfl) (by kernel_rfl) (fun _ _ _ h => h) (Or.inl ⟨by kernel_rfl, ?_⟩) hHeld ?_
        rotate_left
        · intro w hSw; obtain ⟨y0, y1, y2, y3, y4⟩ := hSw; go_simp; try with_reducible rfl
        refine wpAnyH_take (i := 2) (v := ?_) rfl (by kernel_rfl) (by kernel_rfl) (by kernel_rfl) (fun _ _ _ h => h) (Or.inl ⟨by kernel_rfl, ?_⟩) hHeld ?_
        rotate_left
        · intro w hSw; obtain ⟨y0, y1, y2, y3, y4⟩ := hSw; go_simp; try with_reducible rfl
        refine wpAnyH_take (i := 3) (v := ?_) rfl (by kernel_rfl) (by kernel_rfl) (by kernel_rfl) (fun _ _ _ h => h) (Or.inl ⟨by kernel_rfl, ?_⟩) hHeld ?_
        rotate_left
        · intro w hSw; obtain ⟨y0, y1, y2, y3, y4⟩ := hSw; go_simp; try with_reducible rfl
        refine wpAnyH_take (i := 4) (v := ?_) rfl (by kernel_rfl) (by kernel_rfl) (by kernel_rfl) (fun _ _ _ h => h) (Or.inl ⟨by kernel_rfl, ?_⟩) hHeld ?_
        rotate_left
        · intro w hSw; obtain ⟨y0, y1, y2, y3, y4⟩ := hSw; go_simp; try with_reducible rfl
        refine wpAnyH_take (i := 5) (v := undef) rfl (by kernel_rfl) (by kernel_rfl) (by kernel_rfl) (fun _ _ _ h => h) (Or.inr ⟨by kernel_rfl, rfl⟩) hHeld ?_
        refine wpAnyH_take (i := 6) (v := undef) rfl (by kernel_rfl) (by kernel_rfl) (by kernel_rfl) (fun _ _ _ h => h) (Or.inr ⟨by kernel_rfl, rfl⟩) hHeld ?_
        refine wpAnyH_take (i := 7) (v := undef) rfl (by kernel_rfl) (by kernel_rfl) (by kernel_rfl) (fun _ _ _ h => h) (Or.inr ⟨by kernel_rfl, rfl⟩) hHeld ?_
        refine wpAnyH_take (i := 8) (v := undef) rfl (by kernel_rfl) (by kernel_rfl) (by kernel_rfl) (fun _ _ _ h => h) (Or.inr ⟨by kernel_rfl, rfl⟩) hHeld ?_
        refine wpAnyH_take (i := 9) (v := undef) rfl (by kernel_rfl) (by kernel_rfl) (by kernel_rfl) (fun _ _ _ h => h) (Or.inr ⟨by kernel_rfl, rfl⟩) hHeld ?_
        refine wpAnyH_take (i := 10) (v := undef) rfl (by kernel_rfl) (by kernel_rfl) (by kernel_rfl) (fun _ _ _ h => h) (Or.inr ⟨by kernel_rfl, rfl⟩) hHeld ?_
        refine wpAnyH_take (i := 11) (v := undef) rfl (by kernel_rfl) (by kernel_rfl) (by kernel_rfl) (fun _ _ _ h => h) (Or.inr ⟨by kernel_rfl, rfl⟩) hHeld ?_
        refine wpAnyH_take (i := 12) (v := undef) rfl (by kernel_rfl) (by kernel_rfl) (by kernel_rfl) (fun _ _ _ h => h) (Or.inr ⟨by kernel_rfl, rfl⟩) hHeld ?_
        refine wpAnyH_take (i := 13) (v := undef) rfl (by kernel_rfl) (by kernel_rfl) (by kernel_rfl) (fun _ _ _ h => h) (Or.inr ⟨by kernel_rfl, rfl⟩) hHeld ?_
        refine wpAnyH_take (i := 14) (v := ?_) rfl (by kernel_rfl) (by kernel_rfl) (by kernel_rfl) (fun _ _ _ h => h) (Or.inl ⟨by kernel_rfl, ?_⟩) hHeld ?_
        rotate_left
        · intro w hSw; obtain ⟨y0, y1, y2, y3, y4⟩ := hSw; go_simp; try with_reducible rfl
        refine wpAnyH_take (i := 15) (v := ?_) rfl (by kernel_rfl) (by kernel_rfl) (by kernel_rfl) (fun _ _ _ h => h) (Or.inl ⟨by kernel_rfl, ?_⟩) hHeld ?_
        rotate_left
        · intro w hSw; obtain ⟨y0, y1, y2, y3, y4⟩ := hSw; go_simp; try with_reducible rfl
        refine wpAnyH_take (i := 16) (v := ?_) rfl (by kernel_rfl) (by kernel_rfl) (by kernel_rfl) (fun _ _ _ h => h) (Or.inl ⟨by kernel_rfl, ?_⟩) hHeld ?_
        rotate_left
        · intro w hSw; obtain ⟨y0, y1, y2, y3, y4⟩ := hSw; go_simp; try with_reducible rfl
        refine wpAnyH_take (i := 17) (v := ?_) rfl (by kernel_rfl) (by kernel_rfl) (by kernel_rfl) (fun _ _ _ h => h) (Or.inl ⟨by kernel_rfl, ?_⟩) hHeld ?_
        rotate_left
        · intro w hSw; obtain ⟨y0, y1, y2, y3, y4⟩ := hSw; go_simp; try with_reducible rfl
        refine wpAnyH_take (i := 18) (v := ?_) rfl (by kernel_rfl) (by kernel_rfl) (by kernel_rfl) (fun _ _ _ h => h) (Or.inl ⟨by kernel_rfl, ?_⟩) hHeld ?_
        rotate_left
        · intro w hSw; obtain ⟨y0, y1, y2, y3, y4⟩ := hSw; go_simp; try with_reducible rfl
        refine wpAnyH_take (i := 19) (v := ?_) rfl (by kernel_rfl) (by kernel_rfl) (by kernel_rfl) (fun _ _ _ h => h) (Or.inl ⟨by kernel_rfl, ?_⟩) hHeld ?_
        rotate_left
        · intro w hSw; obtain ⟨y0, y1, y2, y3, y4⟩ := hSw; go_simp; try with_reducible rfl
        refine wpAnyH_take (i := 20) (v := ?_) rfl (by kernel_rfl) (by kernel_rfl) (by kernel_rfl) (fun _ _ _ h => h) (Or.inl ⟨by kernel_rfl, ?_⟩) hHeld ?_
        rotate_left
        · intro w hSw; obtain ⟨y0, y1, y2, y3, y4⟩ := hSw; go_simp; try with_reducible rfl
        refine wpAnyH_take (i := 21) (v := ?_) rfl (by kernel_rfl) (by kernel_rfl) (by kernel_rfl) (fun _ _ _ h => h) (Or.inl ⟨by kernel_rfl, ?_⟩) hHeld ?_
        rotate_left
        · intro w hSw; obtain ⟨y0, y1, y2, y3, y4⟩ := hSw; go_simp; try with_reducible rfl
        refine wpAnyH_take (i := 22) (v := ?_) rfl (by kernel_rfl) (by kernel_rfl) (by kernel_rfl) (fun _ _ _ h => h) (Or.inl ⟨by kernel_rfl, ?_⟩) hHeld ?_
        rotate_left
        · intro w hSw; obtain ⟨y0, y1, y2, y3, y4⟩ := hSw; go_simp; try with_reducible rfl
        refine wpAnyH_take (i := 23) (v := ?_) rfl (by kernel_rfl) (by kernel_rfl) (by kernel_rfl) (fun _ _ _ h => h) (Or.inl ⟨by kernel_rfl, ?_⟩) hHeld ?_
        rotate_left
        · intro w hSw; obtain ⟨y0, y1, y2, y3, y4⟩ := hSw; go_simp; try with_reducible rfl
        refine wpAnyH_take (i := 24) (v := ?_) rfl (by kernel_rfl) (by kernel_rfl) (by kernel_rfl) (fun _ _ _ h => h) (Or.inl ⟨by kernel_rfl, ?_⟩) hHeld ?_
        rotate_left
        · intro w hSw; obtain ⟨y0, y1, y2, y3, y4⟩ := hSw; go_simp; try with_reducible rfl
        refine wpAnyH_take (i := 26) (v := ?_) rfl (by kernel_rfl) (by kernel_rfl) (by kernel_rfl) (fun _ _ _ h => h) (Or.inl ⟨by kernel_rfl, ?_⟩) hHeld ?_
        rotate_left
        · intro w hSw; obtain ⟨y0, y1, y2, y3, y4⟩ := hSw; go_simp; try with_reducible rfl
        refine wpAnyH_take (i := 27) (v := ?_) rfl (by kernel_rfl) (by kernel_rfl) (by kernel_rfl) (fun _ _ _ h => h) (Or.inl ⟨by kernel_rfl, ?_⟩) hHeld ?_
        rotate_left
        · intro w hSw; obtain ⟨y0, y1, y2, y3, y4⟩ := hSw; go_simp; try with_reducible rfl
        refine wpAnyH_take (i := 28) (v := ?_) rfl (by kernel_rfl) (by kernel_rfl) (by kernel_rfl) (fun _ _ _ h => h) (Or.inl ⟨by kernel_rfl, ?_⟩) hHeld ?_
        rotate_left
        · intro w hSw; obtain ⟨y0, y1, y2, y3, y4⟩ := hSw; go_simp; try with_reducible rfl
        refine wpAnyH_take (i := 29) (v := ?_) rfl (by kernel_rfl) (by kernel_rfl) (by kernel_rfl) (fun _ _ _ h => h) (Or.inl ⟨by kernel_rfl, ?_⟩) hHeld ?_
        rotate_left
        · intro w hSw; obtain ⟨y0, y1, y2, y3, y4⟩ := hSw; go_simp; try with_reducible rfl
        refine wpAnyH_ready (rs := [25]) (by kernel_rfl) (by simp) ?_
        refine AllReadyH.cons rfl (fun KK hKK => ?_) ?_
        · rw [if_pos (by kernel_rfl)]
          go_simp
          go_wp2_with (go_at_call 21; with_reducible refine CT.mono ?_; rintro e w8 ⟨A8, rfl, hrd8, ⟨g8, rfl, _⟩, hb8⟩)
          have hB8 := HBI.out.trans (hb8.mono HBI.out.size)
          have hS8 := HSX.out w8 hb8
          obtain ⟨z0, z1, z2, z3, z4⟩ := HR8.out w8 g8 hrd8
          refine hKK.out _ _ hS8 (fun hHeld => ?_)
          clear hKK KK
          have HB8 := Lib.hid hB8
          clear hB8 hb8 hrd8 hS8
          refine wpAnyH_take (i := 30) (v := ?_) rfl (by kernel_rfl) (by kernel_rfl) (by kernel_rfl) (fun _ _ _ h => h) (Or.inl ⟨by kernel_rfl, ?_⟩) hHeld ?_
          rotate_left
          · intro w hSw; obtain ⟨y0, y1, y2, y3, y4⟩ := hSw; go_simp; try with_reducible rfl
          refine wpAnyH_ready (rs := [31]) (by kernel_rfl) (by simp) ?_
          refine AllReadyH.cons rfl (fun KK hKK => ?_) ?_
          · rw [if_pos (by kernel_rfl)]
            go_simp
            refine hKK.out _ _ hHeld (fun hHeld => ?_)
            clear hKK KK z0 z1 z2 z3 z4
            refine wpAnyH_take (i := 32) (v := ?_) rfl (by kernel_rfl) (by kernel_rfl) (by kernel_rfl) (fun _ _ _ h => h) (Or.inl ⟨by kernel_rfl, ?_⟩) hHeld ?_
            rotate_left
            · intro w hSw; obtain ⟨y0, y1, y2, y3, y4⟩ := hSw; go_simp; try with_reducible rfl
            refine wpAnyH_take (i := 33) (v := ?_) rfl (by kernel_rfl) (by kernel_rfl) (by kernel_rfl) (fun _ _ _ h => h) (Or.inl ⟨by kernel_rfl, ?_⟩) hHeld ?_
            rotate_left
            · intro w hSw; obtain ⟨y0, y1, y2, y3, y4⟩ := hSw; go_simp; try with_reducible rfl
            refine wpAnyH_take (i := 34) (v := ?_) rfl (by kernel_rfl) (by kernel_rfl) (by kernel_rfl) (fun _ _ _ h => h) (Or.inl ⟨by kernel_rfl, ?_⟩) hHeld ?_
            rotate_left
            · intro w hSw; obtain ⟨y0, y1, y2, y3, y4⟩ := hSw; go_simp; try with_reducible rfl
            refine wpAnyH_done (by kernel_rfl) ?_ _
            refine NoPanic.normal ?_
            clear hHeld
            go_wp2
            go_roundw
            case rel => exact ⟨i + 1, by go_num, by omega, HB8.out⟩
            case measure => simp [intOf]; omega
          exact AllReadyH.nil
        exact AllReadyH.nil
    · have i1 : ¬ ((i : Int) < ((es.length + 2 : Nat) : Int)) := by omega
      have C9 := rbuild_any wr a es.length c es (HL.out.below hbI (Nat.le_refl _)) (by omega) HIM.out
      have HBI := Lib.hid hbI
      have HB := Lib.hid hb
      have HROW7 := Lib.hid hrowi
      clear hb hbI hlt hi hrowi HROW6 HXA HXB
      go_wp2_with fail
      refine C9.mono ?_
      rintro e w9 h9
      clear C9
      rcases HCASE.out with ⟨hok, hris, rfl, ho6⟩ | ⟨hok, hnr, rfl⟩ | ⟨hno, rfl⟩
      rotate_left
      · obtain ⟨rfl, hb9⟩ := h9.2.1 hok hnr
        have hb09 := HBI.out.trans (hb9.mono HBI.out.size)
        have C10 := num_Order w9 EA (HS.out.below hb09)
        have HB9 := Lib.hid hb09
        clear h9 hb9 hb09 hok hnr HCASE
        go_wp2_with fail
        refine C10.mono ?_
        rintro e w10 ⟨rfl, rfl⟩
        clear C10
        go_wp2
        go_ret
        exact ⟨rfl, HB9.out⟩
      · obtain ⟨rfl, hb9⟩ := h9.2.2 hno
        have hb09 := HBI.out.trans (hb9.mono HBI.out.size)
        have C10 := num_Limit w9 EA (HS.out.below hb09)
        have HB9 := Lib.hid hb09
        clear h9 hb9 hb09 hno HCASE
        go_wp2_with fail
        refine C10.mono ?_
        rintro e w10 ⟨rfl, rfl⟩
        clear C10
        go_wp2
        go_ret
        exact ⟨rfl, HB9.out⟩
      · obtain ⟨v9, rfl, ho9, hb9⟩ := h9.1 hok hris
        obtain ⟨A9, N9, C9, rfl⟩ := own_sl ho9
        have himl := image_small hel hok
        have hpp := parse_put hok hris (by omega)
        have hokz : ∀ x ∈ es.map zzE, entOk x = true := fun x hx => by
          obtain ⟨y, hy, rfl⟩ := List.mem_map.1 hx
          exact zz_ok (hok y hy)
        obtain ⟨img, himg⟩ : ∃ img, imageB es = img := ⟨_, rfl⟩
        rw [himg] at ho6 ho9 himl hpp
        have hN9 := ho9.len
        rw [bytesV_length] at hN9
        subst hN9
        have hN6 := ho6.len
        rw [bytesV_length] at hN6
        subst hN6
        have hb09 := HBI.out.trans (hb9.mono HBI.out.size)
        have hlt6 : ∀ k, (Value.slice A6 img.length C6).ownBlock = some k → w5.heap.size ≤ k ∧ k < w9.heap.size := fun k hk => ⟨(ho6.lt k hk).1, Nat.lt_of_lt_of_le (ho6.lt k hk).2 (Nat.le_trans HB.out.size hb9.size)⟩
        have hob := (ho6.below HB.out (Nat.le_refl _)).below hb9 (Nat.le_refl _)
        have hrow9 := HROW7.out.below hb9 (Nat.le_refl _)
        have hrd9 := hrow9.rdTake es.length (by rw [HXL.out]; omega)
        rw [HXT.out] at hrd9
        have C10 := num_nil w9
        have C11 := build_any w9 (some ⟨g, 0, none⟩) es.length C5 es hrd9 (by omega) (by omega) HIM.out EA (HS.out.below hb09).derr.r
        have hg9 : g < w9.heap.size := (hrow9.lt g rfl).2
        have h59 : w5.heap.size ≤ w9.heap.size := by have h1 := HB.out.size; have h2 := hb9.size; omega
        have HPP := Lib.hid hpp
        have HIML := Lib.hid himl
        have HOKZ := Lib.hid hokz
        have HIMG := Lib.hid himg
        have HLT6 := Lib.hid hlt6
        have HOB := Lib.hid hob
        have HOW := Lib.hid ho9
        have HROW9 := Lib.hid hrow9
        have HB9 := Lib.hid hb09
        have HOK := Lib.hid hok
        have HRIS := Lib.hid hris
        have hw9w : wr.heap.size ≤ w9.heap.size := hb9.size
        clear h9 ho9 hb9 himl hpp hokz himg ho6 hb09 hlt6 hob hrow9 hrd9 hok hris HCASE HROW7 HBI HB i1
        go_wp2_with fail
        refine C10.mono ?_
        rintro e w10 ⟨rfl, rfl⟩
        clear C10
        go_wp2_with fail
        refine C11.mono ?_
        rintro e w11 h11
        clear C11
        obtain ⟨v11, rfl, ho11, hb11⟩ := h11.1 HOK.out HRIS.out
        rw [HIMG.out] at ho11
        obtain ⟨A11, N11, C11, rfl⟩ := own_sl ho11
        have hN11 := ho11.len
        rw [bytesV_length] at hN11
        subst hN11
        have hbW := HB9.out.trans (hb11.mono HB9.out.size)
        have hrow11 := HROW9.out.below hb11 (Nat.le_refl _)
        have hob := HOB.out.below hb11 (Nat.le_refl _)
        have how := HOW.out.below hb11 (Nat.le_refl _)
        have hrowU : RowE w11 w1.heap.size (.slice (some ⟨g, 0, none⟩) (es.length + 2) C5) (zzU X 0) := hrow11
        have h911 := hb11.size
        have HLTC := Lib.hid ho11.lt
        have HROWU := Lib.hid hrowU
        have HOB1 := Lib.hid hob
        have HOW1 := Lib.hid how
        have HOC1 := Lib.hid ho11
        have HBW := Lib.hid hbW
        have HROW11 := Lib.hid hrow11
        clear h11 ho11 hb11 hbW hrow11 hob how hrowU HOB HOW HROW9 HB9 HOK HRIS
        go_wp2
        obtain ⟨wo, rfl⟩ : ∃ wo : World, wo = wr := ⟨_, rfl⟩
        go_loopw [98] (fun s98 wr => ∃ (i : Nat), s98 = .int .i64 i ∧ i ≤ es.length + 2 ∧ RowE wr w1.heap.size (.slice (some ⟨g, 0, none⟩) (es.length + 2) C5) (zzU X i) ∧ Eff (fun k => k = g) w11 wr) (fun s98 _ => es.length + 2 - (intOf s98).toNat)
        case atStart => exact ⟨0, rfl, Nat.zero_le _, HROWU.out, Eff.refl _ _⟩
        case round =>
          clear HROWU
          obtain ⟨i, rfl, hi, hrow, he⟩ := hrel
          by_cases hlt : i < es.length + 2
          · have i1 : (i : Int) < ((es.length + 2 : Nat) : Int) := by omega
            have hiX : i < X.length := by rw [HXL.out]; exact hlt
            have hiU : i < (zzU X i).length := by rw [zzU_len X i (by omega)]; exact hiX
            obtain ⟨cur, hgg⟩ := hrow.blk
            obtain ⟨g', hg', _, _, _, hat⟩ := hrow.head (by omega)
            injection hg' with hg'
            injection hg' with hg' _ _
            subst hg'
            have d0 := (hat i hiU).k
            have z0 := blk_frozen hgg (i * 5)
            have hset := hrow.setF i 0 hiU (by decide) (zzE X[i]) (.string ⟨#[122, 122]⟩) (by rw [zzU_get X i hiX]; rfl)
            rw [zzU_set X i hiX] at hset
            have he2 := he.setCell (p := ⟨g, i * 5, none⟩) (fun _ => rfl) (.string ⟨#[122, 122]⟩)
            generalize ((zzU X i)[i]).k = k0 at d0
            have HSET := Lib.hid hset
            have HE2 := Lib.hid he2
            clear hat hgg hset he2 hrow he hiX hiU
            go_wp2
            go_roundw
            case rel => exact ⟨i + 1, by go_num, by omega, HSET.out, HE2.out⟩
            case measure => simp [intOf]; omega
          · have i1 : ¬ ((i : Int) < ((es.length + 2 : Nat) : Int)) := by omega
            rw [zzU_all X i (by rw [HXL.out]; omega)] at hrow
            obtain ⟨cur, hgg⟩ := HROW11.out.blk
            have hob := HOB1.out.eff he (fun k hk e => HOB1.out.ne_type hgg (by decide) (e ▸ hk))
            have how := HOW1.out.eff he (fun k hk e => HOW1.out.ne_type hgg (by decide) (e ▸ hk))
            have hoc := HOC1.out.eff he (fun k hk e => HOC1.out.ne_type hgg (by decide) (e ▸ hk))
            have hbW := HBW.out.trans (he.below (B := W.heap.size) (fun k hk => hk ▸ hgW) HBW.out.size)
            have hsz := he.size
            have C12 := equal_any wr _ _ img img hob.rd how.rd
            have C13 := equal_any wr _ _ img img hoc.rd how.rd
            rw [show (img == img) = true from beq_self_eq_true _] at C12 C13
            have C14 := spare_any wr A9 img.length C9 img how.rd (by have := HIML.out; omega)
            have HROWZ := Lib.hid hrow
            have HOB2 := Lib.hid hob
            have HOW2 := Lib.hid how
            have HOC2 := Lib.hid hoc
            have HBW2 := Lib.hid hbW
            clear hrow hob how hoc hbW he hgg hlt hi HOB1 HOW1 HOC1 HBW HROW11
            go_wp2_with fail
            refine C12.mono ?_
            rintro e wx ⟨rfl, rfl⟩
            clear C12
            go_wp2_with fail
            refine C13.mono ?_
            rintro e wx ⟨rfl, rfl⟩
            clear C13
            go_wp2_with fail
            refine C14.mono ?_
            rintro e w12 ⟨Af, Cf, rfl, hof, hb12⟩
            clear C14
            have hbW := HBW2.out.trans (hb12.mono HBW2.out.size)
            have himg := own_to (own_head hof img.length (by simp [bytesV_length])) (ys := bytesV img) (by rw [bytesV_append, List.take_append_of_le_length (by rw [bytesV_length]; omega), List.take_of_length_le (by rw [bytesV_length]; omega)])
            have C15 := open_any w12 Af img.length Cf img himg.rd (by have := HIML.out; omega) EA (HS.out.below hbW).derr
            rw [HPP.out] at C15
            have hrow := HROWZ.out.below hb12 (Nat.le_refl _)
            have hob := HOB2.out.below hb12 (Nat.le_refl _)
            have how := HOW2.out.below hb12 (Nat.le_refl _)
            have hoc := HOC2.out.below hb12 (Nat.le_refl _)
            have h12 := hb12.size
            have HLTF := Lib.hid hof.lt
            have HROW3 := Lib.hid hrow
            have HOB3 := Lib.hid hob
            have HOW3 := Lib.hid how
            have HOC3 := Lib.hid hoc
            have HOF3 := Lib.hid hof
            have HBW3 := Lib.hid hbW
            clear hrow hob how hoc hof hbW hb12 himg HROWZ HOB2 HOW2 HOC2 HBW2 HPP
            go_wp2_with fail
            refine C15.mono ?_
            rintro e w13 ⟨hy, _⟩
            clear C15
            obtain ⟨q, v, rfl, hd, hb13⟩ := hy es rfl
            have hbW := HBW3.out.trans (hb13.mono HBW3.out.size)
            have hrow := HROW3.out.below hb13 (Nat.le_refl _)
            have hob := HOB3.out.below hb13 (Nat.le_refl _)
            have how := HOW3.out.below hb13 (Nat.le_refl _)
            have hoc := HOC3.out.below hb13 (Nat.le_refl _)
            have hof := HOF3.out.below hb13 (Nat.le_refl _)
            have C16 := kept_any w13 Af (img.length + 80) Cf A9 img.length C9 img hof.rd how.rd (by have := HIML.out; omega)
            have h13 := hb13.size
            have HROW4 := Lib.hid hrow
            have HOB4 := Lib.hid hob
            have HOC4 := Lib.hid hoc
            have HOF4 := Lib.hid hof
            have HBW4 := Lib.hid hbW
            have HD4 := Lib.hid hd
            clear hrow hob how hoc hof hbW hb13 hd hy HROW3 HOB3 HOW3 HOC3 HOF3 HBW3
            go_wp2_with fail
            refine C16.mono ?_
            rintro e w14 ⟨rfl, d, rfl⟩
            clear C16
            have hrow := HROW4.out.drewN d
            have hob := HOB4.out.drewN d
            have hoc := HOC4.out.drewN d
            have hof := HOF4.out.drewN d
            have hbW := below_drewN HBW4.out d
            have hd := HD4.out.drewN d
            have h14 : w13.heap.size = (w13.drewN d).heap.size := rfl
            generalize w13.drewN d = w14 at hrow hob hoc hof hbW hd h14 ⊢
            have HROW5' := Lib.hid hrow
            have HOB5 := Lib.hid hob
            have HOC5 := Lib.hid hoc
            have HOF5 := Lib.hid hof
            have HBW5' := Lib.hid hbW
            have HD5 := Lib.hid hd
            clear hrow hob hoc hof hbW hd HROW4 HOB4 HOC4 HOF4 HBW4 HD4
            go_wp2
            obtain ⟨wp, rfl⟩ : ∃ wp : World, wp = wr := ⟨_, rfl⟩
            go_loopw [140] (fun s140 wr => ∃ (i : Nat) (fs : List UInt8), s140 = .int .i64 i ∧ i ≤ img.length + 80 ∧ fs.length = img.length + 80 ∧ Own wr wp.heap.size 5 (.slice Af (img.length + 80) Cf) (bytesV fs) ∧ Eff (fun k => (Value.slice Af (img.length + 80) Cf).ownBlock = some k) w14 wr) (fun s140 _ => img.length + 80 - (intOf s140).toNat)
            case atStart => exact ⟨0, img ++ marks 7 0 80, rfl, Nat.zero_le _, by simp [marks], HOF5.out, Eff.refl _ _⟩
            case round =>
              clear i1
              obtain ⟨i, fs, rfl, hi, hfl, ho, he⟩ := hrel
              have himb : img.length ≤ 24000000 := by have := HIML.out; omega
              by_cases hlt : i < img.length + 80
              · obtain ⟨gf, rfl⟩ := ho.someAt (by omega)
                have hx := ho.get (bytesV_get fs i (by omega))
                have hfz := ho.frozen i
                obtain ⟨z, hz⟩ : ∃ z, (fs[i]'(by omega)).toNat = z := ⟨_, rfl⟩
                rw [hz] at hx
                obtain ⟨y, hy⟩ := xor_u8 (z : Int) 85
                have hset := own_to (ho.set i (.int .u8 ((y.toNat : Nat) : Int))) (ys := bytesV (fs.set i y)) (by simp [bytesV, List.map_set])
                have he2 := he.setCell (p := ⟨gf, i, none⟩) (fun _ => rfl) (.int .u8 ((y.toNat : Nat) : Int))
                have hfl2 : (fs.set i y).length = img.length + 80 := by rw [List.length_set]; exact hfl
                have i2 : (i : Int) < ((img.length + 80 : Nat) : Int) := by omega
                have HSET := Lib.hid hset
                have HE2 := Lib.hid he2
                have HFL2 := Lib.hid hfl2
                clear ho he hfl hset he2 hfl2 hz
                go_wp2
                go_roundw
                case rel => exact ⟨i + 1, fs.set i y, by go_num, by omega, HFL2.out, HSET.out, HE2.out⟩
                case measure => simp [intOf]; omega
              · have i2 : ¬ ((i : Int) < ((img.length + 80 : Nat) : Int)) := by omega
                have hof := own_to (own_head ho img.length (by rw [bytesV_length, hfl]; omega)) (ys := bytesV (fs.take img.length)) (by rw [bytesV_take])
                obtain ⟨bs, hbs⟩ : ∃ bs, fs.take img.length = bs := ⟨_, rfl⟩
                have hbl : bs.length = img.length := by rw [← hbs, List.length_take, hfl]; omega
                rw [hbs] at hof
                have hob := HOB5.out.eff he (fun k hk e => by have h1 := (HLT6.out k hk).2; have h2 := (HLTF.out k e).1; omega)
                have hoc := HOC5.out.eff he (fun k hk e => by have h1 := (HLTC.out k hk).2; have h2 := (HLTF.out k e).1; omega)
                have hrow := HROW5'.out.eff he (fun k hk e => by have h2 := (HLTF.out k e).1; have h1 : g = k := by simpa [Value.ownBlock] using hk
                                                                 omega)
                have hd := HD5.out.eff he (fun k e => (HLTF.out k e).2)
                have hbW := HBW5'.out.trans (he.below (B := W.heap.size) (fun k e => by have h2 := (HLTF.out k e).1; have := hWw; omega) HBW5'.out.size)
                have hez := he.size
                obtain ⟨wA, hwA⟩ : ∃ wA, wA = wr.alloc (.cells #[.slice A6 img.length C6, .slice A11 img.length C11] 22) := ⟨_, rfl⟩
                have hbA : Below wr.heap.size wr wA := by rw [hwA]; exact (Below.refl _ _).alloc (Nat.le_refl _) _
                have hzA : wA.heap.size = wr.heap.size + 1 := by rw [hwA]; simp
                have hcA : wA.heap[wr.heap.size]? = some (.cells #[.slice A6 img.length C6, .slice A11 img.length C11] 22 (0, 0)) := by rw [hwA]; exact heap_alloc_new wr _
                obtain ⟨vs, hvs⟩ : ∃ vs : Nat → Value, vs = fun k => if k = 0 then .slice A6 img.length C6 else .slice A11 img.length C11 := ⟨_, rfl⟩
                have hv0 : vs 0 = .slice A6 img.length C6 := by rw [hvs]; rfl
                have hv1 : vs 1 = .slice A11 img.length C11 := by rw [hvs]; rfl
                clear hvs
                have hF : ∀ k, Fv 2 vs k → w5.heap.size ≤ k ∧ k < w11.heap.size := fun k h => by
                  obtain ⟨j, hj, hk⟩ := h
                  rcases (show j = 0 ∨ j = 1 by omega) with rfl | rfl
                  · rw [hv0] at hk; have := HLT6.out k hk; omega
                  · rw [hv1] at hk; have := HLTC.out k hk; omega
                have hlA : Rd wA (.slice (some ⟨wr.heap.size, 0, none⟩) 2 2) ((List.range 2).map vs) := ⟨_, 2, rfl, Nat.le_refl _, fun _ => ⟨wr.heap.size, 0, rfl, fun j x hj => by
                  rw [Nat.zero_add, blk_cell hcA j]
                  match j, hj with
                  | 0, hj => rw [← hj]; show _ = some (vs 0); rw [hv0]; rfl
                  | 1, hj => rw [← hj]; show _ = some (vs 1); rw [hv1]; rfl
                  | j + 2, hj => simp at hj⟩⟩
                have hoL : OwnL wA w5.heap.size 2 vs (fun _ => img) := ⟨fun k hk => by
                    rcases (show k = 0 ∨ k = 1 by omega) with rfl | rfl
                    · rw [hv0]; exact hob.below hbA (Nat.le_refl _)
                    · rw [hv1]; exact own_base (hoc.below hbA (Nat.le_refl _)) h59, fun k l b hk hl hne h1 h2 => by
                    rcases (show k = 0 ∧ l = 1 ∨ k = 1 ∧ l = 0 by omega) with ⟨rfl, rfl⟩ | ⟨rfl, rfl⟩
                    · rw [hv0] at h1; rw [hv1] at h2; have := HLT6.out b h1; have := HLTC.out b h2; omega
                    · rw [hv1] at h1; rw [hv0] at h2; have := HLT6.out b h2; have := HLTC.out b h1; omega⟩
                have C17 := own_any wA w5.heap.size (some ⟨wr.heap.size, 0, none⟩) 2 2 2 vs (fun _ => img) hlA hoL (by omega) (by omega) (fun _ => by have := HIML.out; omega) (fun b o e => by
                  injection e with e
                  injection e with e _ _
                  subst e
                  intro h9
                  have := (hF _ h9).2
                  omega)
                rw [hwA] at C17
                have hofA := hof.below hbA (Nat.le_refl _)
                have hrowA := hrow.below hbA (Nat.le_refl _)
                have hdA := hd.below hbA (Nat.le_refl _)
                have hbWA := hbW.trans (hbA.mono hbW.size)
                have HWA := Lib.hid hwA
                have HF := Lib.hid hF
                have HOFA := Lib.hid hofA
                have HROWA := Lib.hid hrowA
                have HDA := Lib.hid hdA
                have HBWA := Lib.hid hbWA
                have HBL := Lib.hid hbl
                clear ho he hfl hof hbs hbl hob hoc hrow hd hbW hwA hbA hcA hv0 hv1 hF hlA hoL hofA hrowA hdA hbWA HOB5 HOC5 HOF5 HROW5' HD5 HBW5' hzA
                go_wp2_with fail
                refine C17.mono ?_
                rintro e w15 ⟨rfl, he15⟩
                clear C17
                rw [← HWA.out] at he15
                have hof := HOFA.out.eff he15 (fun k hk e => by have h1 := (HF.out k e).2; have h2 := (HLTF.out k ((ownB _ _ _ _ _).trans hk)).1; omega)
                have hrow := HROWA.out.eff he15 (fun k hk e => by have h1 := (HF.out k e).1; have h3 : g = k := by simpa [Value.ownBlock] using hk
                                                                  omega)
                have hd := HDA.out.eff he15 (fun k e => by have h1 := (HF.out k e).2; omega)
                have hbW := HBWA.out.trans (he15.below (B := W.heap.size) (fun k e => by have h1 := (HF.out k e).1; omega) HBWA.out.size)
                have hrowE := rowE_empty w15 w15.heap.size (Nat.le_refl _)
                have hbB : Below w15.heap.size w15 (w15.alloc (.cells #[] 32)) := (Below.refl _ _).alloc (Nat.le_refl _) _
                have hrdz := (hrow.below hbB (Nat.le_refl _)).rdTake es.length (by rw [List.length_map, HXL.out]; omega)
                rw [← List.map_take, HXT.out] at hrdz
                have hlz : ([] : List EntV).length + (es.map zzE).length ≤ 1000000000 := by simp; omega
                have hzz : w15.heap.size ≤ (w15.alloc (.cells #[] 32)).heap.size := by simp
                obtain ⟨kz, bz, Ez, hrb, hbb, hnum⟩ := both_build EA HOKZ.out
                obtain ⟨k2, E2, hro, hop, hnum2⟩ := both_open EA bs
                have HROWE := Lib.hid hrowE
                have HRDZ := Lib.hid hrdz
                have HBB := Lib.hid hbB
                have HOF6 := Lib.hid hof
                have HROW6 := Lib.hid hrow
                have HD6 := Lib.hid hd
                have HBW6' := Lib.hid hbW
                have HRB := Lib.hid hrb
                have HBBZ := Lib.hid hbb
                have HNUM := Lib.hid hnum
                have HRO := Lib.hid hro
                have HOP := Lib.hid hop
                have HNUM2 := Lib.hid hnum2
                clear hof hrow hd hbW hrowE hbB hrdz hrb hbb hnum hro hop hnum2 he15 HOFA HROWA HDA HBWA HWA HF
                go_wp2_with (at_builtin; with_reducible refine apEs HROWE.out HRDZ.out hlz hzz rfl _ _ rfl rfl rfl ?_)
                intro v17 w17 hrow17 hg17
                have hrow17 : RowE w17 w15.heap.size v17 (es.map zzE) := hrow17
                have hb17 := HROWE.out.grown hg17 HBB.out (Nat.le_refl _)
                obtain ⟨A17, C17, rfl⟩ := hrow17.sl
                have hlm : (es.map zzE).length = es.length := List.length_map ..
                rw [hlm] at hrow17
                rw [hlm]
                have hb17W := HBW6'.out.trans (hb17.mono HBW6'.out.size)
                have hof := HOF6.out.below hb17 (Nat.le_refl _)
                have hrow := HROW6.out.below hb17 (Nat.le_refl _)
                have hd := HD6.out.below hb17 (Nat.le_refl _)
                have hTz : (∀ x ∈ es.map zzE, entOk x = true) → (imageB (es.map zzE)).length ≤ 1000000000 := fun ok => image_most (by rw [hlm]; omega) ok
                have C18 := (rbuild_any w17 A17 es.length C17 (es.map zzE) hrow17.rd (by rw [hlm]; omega) hTz).mono (HRB.out w17)
                have HOF7 := Lib.hid hof
                have HROW7 := Lib.hid hrow
                have HD7 := Lib.hid hd
                have HBW7 := Lib.hid hb17W
                have HTZ := Lib.hid hTz
                have HLM := Lib.hid hlm
                clear hlm hof hrow hd hb17W hb17 hrow17 hg17 hTz HOF6 HROW6 HD6 HBW6' HROWE HRDZ HBB HRB
                go_wp2_with fail
                refine C18.mono ?_
                rintro e w18 ⟨A18, N18, K18, rfl, hrd18, hb18⟩
                clear C18
                have hbW := HBW7.out.trans (hb18.mono HBW7.out.size)
                have hof := HOF7.out.below hb18 (Nat.le_refl _)
                have hrow := HROW7.out.below hb18 (Nat.le_refl _)
                have hd := HD7.out.below hb18 (Nat.le_refl _)
                have hrdz := hrow.rdTake es.length (by rw [List.length_map, HXL.out]; omega)
                rw [← List.map_take, HXT.out] at hrdz
                have C19 := (build_any w18 (some ⟨g, 0, none⟩) es.length C5 (es.map zzE) hrdz (by omega) (by rw [HLM.out]; omega) HTZ.out EA (HS.out.below hbW).derr.r).mono (HBBZ.out w18)
                have HRD18 := Lib.hid hrd18
                have HOF8 := Lib.hid hof
                have HD8 := Lib.hid hd
                have HBW8 := Lib.hid hbW
                clear hrd18 hof hrow hd hbW hb18 hrdz HOF7 HROW7 HD7 HBW7 HTZ HBBZ
                go_wp2_with fail
                refine C19.mono ?_
                rintro e w19 ⟨A19, N19, K19, rfl, hrd19, hb19⟩
                clear C19
                have hbW := HBW8.out.trans (hb19.mono HBW8.out.size)
                have hof := HOF8.out.below hb19 (Nat.le_refl _)
                have hd := HD8.out.below hb19 (Nat.le_refl _)
                have C20 := HNUM.out w19 (HS.out.below hbW)
                have C21 := equal_any w19 _ _ bz bz hrd19 (HRD18.out.below hb19 (Nat.le_refl _))
                rw [show (bz == bz) = true from beq_self_eq_true _] at C21
                have hoe := own_empty w19 w19.heap.size 5 (Nat.le_refl _)
                have hbC : Below w19.heap.size w19 (w19.alloc (.cells #[] 5)) := (Below.refl _ _).alloc (Nat.le_refl _) _
                have hrdi := (hof.below hbC (Nat.le_refl _)).rd
                have h1c := bytesV_one bs
                have hl0 : ([] : List Value).length + (bytesV bs).length < 1000000000001 := by have := HBL.out; have := HIML.out; rw [bytesV_length]; simp; omega
                have hz0 : w19.heap.size ≤ (w19.alloc (.cells #[] 5)).heap.size := by simp
                have HOF9 := Lib.hid hof
                have HD9 := Lib.hid hd
                have HBW9 := Lib.hid hbW
                have HOE := Lib.hid hoe
                have HBC := Lib.hid hbC
                have HRDI := Lib.hid hrdi
                have H1C := Lib.hid h1c
                clear hrd19 hof hd hbW hb19 hoe hbC hrdi h1c HRD18 HOF8 HD8 HBW8 HNUM
                go_wp2_with fail
                refine C20.mono ?_
                rintro e wx ⟨rfl, rfl⟩
                clear C20
                have tk : (((kz : Nat) : Int) != ((kz : Nat) : Int)) = false := by simp
                go_wp2_with fail
                refine C21.mono ?_
                rintro e wx ⟨rfl, rfl⟩
                clear C21 tk
                go_wp2_with (at_builtin; with_reducible refine apN elBytes HOE.out HRDI.out H1C.out hl0 hz0 rfl _ _ rfl rfl rfl ?_)
                intro v21 w21 g1 g2 g3 g4
                have g1 : Own w21 w19.heap.size 5 v21 (bytesV bs) := g1
                have hb21 : Below w19.heap.size w19 w21 := HBC.out.grown g4 hz0 (fun k hk => (HOE.out.lt k hk).1)
                obtain ⟨A21, N21, C21, rfl⟩ := own_sl g1
                have hbW := HBW9.out.trans (hb21.mono HBW9.out.size)
                have hof := HOF9.out.below hb21 (Nat.le_refl _)
                have hd := HD9.out.below hb21 (Nat.le_refl _)
                have C22 := (ropen_any w21 A21 N21 C21 bs g1.rd (by have := HBL.out; have := HIML.out; omega)).mono (HRO.out w21)
                have HOF10 := Lib.hid hof
                have HD10 := Lib.hid hd
                have HBW10 := Lib.hid hbW
                clear g1 g2 g3 g4 hb21 hbW hof hd HOF9 HD9 HBW9 HOE HBC HRDI H1C HRO
                go_wp2_with fail
                refine C22.mono ?_
                rintro e w22 ⟨A22, N22, K22, rfl, hb22⟩
                clear C22
                have hbW := HBW10.out.trans (hb22.mono HBW10.out.size)
                have hof := HOF10.out.below hb22 (Nat.le_refl _)
                have hd := HD10.out.below hb22 (Nat.le_refl _)
                have C23 := (open_any w22 Af img.length Cf bs hof.rd (by have := HBL.out; have := HIML.out; omega) EA (HS.out.below hbW).derr).mono (HOP.out w22)
                have HD11 := Lib.hid hd
                have HBW11 := Lib.hid hbW
                clear hb22 hbW hof hd HOF10 HD10 HBW10 HOP
                go_wp2_with fail
                refine C23.mono ?_
                rintro e w23 ⟨P23, rfl, hb23⟩
                clear C23
                have hbW := HBW11.out.trans (hb23.mono HBW11.out.size)
                have hd := HD11.out.below hb23 (Nat.le_refl _)
                have C24 := HNUM2.out w23 (HS.out.below hbW)
                have C25 := walked_any w23 _ q v es hd a es.length c (HL.out.below hbW (Nat.le_refl _)) (by omega) 0 (by omega)
                have HD12 := Lib.hid hd
                have HBW12 := Lib.hid hbW
                clear hb23 hbW hd HD11 HBW11 HNUM2
                go_wp2_with fail
                refine C24.mono ?_
                rintro e wx ⟨rfl, rfl⟩
                clear C24
                have tk : (((k2 : Nat) : Int) != ((k2 : Nat) : Int)) = false := by simp
                go_wp2_with fail
                refine C25.mono ?_
                rintro e w24 ⟨rfl, hb24⟩
                clear C25 tk
                have hbW := HBW12.out.trans (hb24.mono HBW12.out.size)
                have C26 := answer_size w24 _ q v es (HD12.out.below hb24 (Nat.le_refl _)) (by omega) a es.length c rfl 0 ⟨#[]⟩
                have HBW13 := Lib.hid hbW
                clear hb24 hbW HD12 HBW12
                go_wp2_with fail
                refine C26.mono ?_
                rintro e w25 ⟨rfl, hb25⟩
                clear C26
                have HBW14 := Lib.hid (HBW13.out.trans (hb25.mono HBW13.out.size))
                clear hb25
                go_wp2
                go_ret
                exact ⟨rfl, HBW14.out⟩
end Go.Proofs.YtfeldllcpeibcaaDoor
