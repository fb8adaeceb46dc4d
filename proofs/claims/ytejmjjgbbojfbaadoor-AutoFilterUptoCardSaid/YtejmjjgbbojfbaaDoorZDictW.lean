/- dict: Build. -/
import Derived.Test.YtejmjjgbbojfbaaDoorZG6
import Derived.Test.YtejmjjgbbojfbaaDoorZDictO
namespace Go.Proofs.YtejmjjgbbojfbaaDoor
set_option linter.unusedVariables false
open Go.ChangeShapes Go.WideShapes Go.ChangeAt Go.RowKit

/-! ### Plain -/
theorem entOk_of {k : ByteArray} {d t a s : Int} (h1 : 1 ≤ k.size) (h2 : k.size ≤ 65) (h : ∀ j, j < 4 → numOk (num4 d t a s j) = true) : entOk ⟨k, d, t, a, s⟩ = true := by
  have e : (EntV.K ⟨k, d, t, a, s⟩).length = k.size := Array.length_toList (xs := k.data)
  unfold entOk
  rw [e]
  simp only [Bool.and_eq_true, decide_eq_true_eq]
  exact ⟨⟨h1, h2⟩, h 0 (by omega), h 1 (by omega), h 2 (by omega), h 3 (by omega)⟩
theorem entOk_key {k : ByteArray} {d t a s : Int} (h : entOk ⟨k, d, t, a, s⟩ = true) : 1 ≤ k.size ∧ k.size ≤ 65 := by
  have e : (EntV.K ⟨k, d, t, a, s⟩).length = k.size := Array.length_toList (xs := k.data)
  have := entOk_len h
  rw [e] at this; exact this
theorem entOk_num4 {k : ByteArray} {d t a s : Int} (h : entOk ⟨k, d, t, a, s⟩ = true) : ∀ j, j < 4 → numOk (num4 d t a s j) = true
  | 0, _ => (entOk_num h).1
  | 1, _ => (entOk_num h).2.1
  | 2, _ => (entOk_num h).2.2.1
  | 3, _ => (entOk_num h).2.2.2
  | j + 4, h => by omega
theorem Wr.low {w : World} {B B0 p : Nat} {v : Value} {bs : List UInt8} (h : Wr w B p v bs) (hB : B0 ≤ B) : Wr w B0 p v bs := ⟨h.blk, Nat.le_trans hB h.hp, own_base h.own hB⟩
theorem rising_iff : ∀ (es : List EntV) (prev : Option (List UInt8)), rising prev es ↔ (∀ e, es.head? = some e → above prev e.K = true) ∧ ∀ j (h : j + 1 < es.length), Go.Op.bytesLess (es[j]'(by omega)).K es[j + 1].K = true
  | [], prev => ⟨fun _ => ⟨fun e h => (by cases h), fun j h => (by simp at h)⟩, fun _ => trivial⟩
  | e :: r, prev => by
    unfold rising
    rw [rising_iff r (some e.K)]
    constructor
    · rintro ⟨h1, h2, h3⟩
      refine ⟨fun e' h => (by simp at h; subst h; exact h1), fun j h => ?_⟩
      cases j with
      | zero =>
        cases r with
        | nil => simp at h
        | cons e2 r => exact h2 e2 rfl
      | succ j => exact h3 j (by simp at h; omega)
    · rintro ⟨h1, h2⟩
      refine ⟨h1 e rfl, fun e' h => ?_, fun j h => h2 (j + 1) (by simp; omega)⟩
      cases r with
      | nil => cases h
      | cons e2 r => simp at h; subst h; exact h2 0 (by simp)
theorem rising_none (es : List EntV) : rising none es ↔ ∀ j (h : j + 1 < es.length), Go.Op.bytesLess (es[j]'(by omega)).K es[j + 1].K = true := by
  rw [rising_iff]; exact ⟨fun h => h.2, fun h => ⟨fun _ _ => rfl, h⟩⟩
/-- The two Writers have no memory in common. -/
def Apart2 (p1 : Nat) (v1 : Value) (p2 : Nat) (v2 : Value) : Prop := ∀ k, WrB p1 v1 k → ¬ WrB p2 v2 k
theorem Apart2.left {w w' : World} {base p1 p2 : Nat} {v1 v1' v2 : Value} {b2 : List UInt8} (h : Apart2 p1 v1 p2 v2) (hw : Wrote w w' p1 v1 v1') (h2 : Wr w base p2 v2 b2) : Apart2 p1 v1' p2 v2 := by
  rintro k (rfl | hk) hk2
  · exact h _ (.inl rfl) hk2
  · rcases hw.fresh k hk with hk | hk
    · exact h k (.inr hk) hk2
    · have := (h2.ge k hk2).2; omega
theorem Apart2.right {w w' : World} {base p1 p2 : Nat} {v1 v2 v2' : Value} {b1 : List UInt8} (h : Apart2 p1 v1 p2 v2) (hw : Wrote w w' p2 v2 v2') (h1 : Wr w base p1 v1 b1) : Apart2 p1 v1 p2 v2' := by
  rintro k hk1 (rfl | hk)
  · exact h _ hk1 (.inl rfl)
  · rcases hw.fresh k hk with hk | hk
    · exact h k hk1 (.inr hk)
    · have := (h1.ge k hk1).2; omega

/-- What Build answers and leaves. -/
def BuildPost (w : World) (EA : Nat → Addr) (es : List EntV) (e : Ending) (w' : World) : Prop :=
  ((∀ x ∈ es, entOk x = true) → rising none es → ∃ v', e = .returned (.tuple #[v', .nilIface]) ∧ Own w' w.heap.size 5 v' (bytesV (imageB es)) ∧ Below w.heap.size w w') ∧
  ((∀ x ∈ es, entOk x = true) → ¬ rising none es → e = .returned (.tuple #[.slice none 0 0, errV EA 4]) ∧ Below w.heap.size w w') ∧
  (¬ (∀ x ∈ es, entOk x = true) → e = .returned (.tuple #[.slice none 0 0, errV EA 3]) ∧ Below w.heap.size w w')
theorem BuildPost.lim {w : World} {EA : Nat → Addr} {es : List EntV} {e : Ending} {w' : World} {x : EntV} (hx : x ∈ es) (hn : ¬ entOk x = true) (he : e = .returned (.tuple #[.slice none 0 0, errV EA 3])) (hb : Below w.heap.size w w') : BuildPost w EA es e w' :=
  ⟨fun h => absurd (h x hx) hn, fun h => absurd (h x hx) hn, fun _ => ⟨he, hb⟩⟩
theorem BuildPost.ord {w : World} {EA : Nat → Addr} {es : List EntV} {e : Ending} {w' : World} (ok : ∀ x ∈ es, entOk x = true) (hn : ¬ rising none es) (he : e = .returned (.tuple #[.slice none 0 0, errV EA 4])) (hb : Below w.heap.size w w') : BuildPost w EA es e w' :=
  ⟨fun _ h => absurd h hn, fun _ _ => ⟨he, hb⟩, fun h => absurd ok h⟩
theorem BuildPost.ok {w : World} {EA : Nat → Addr} {es : List EntV} {e : Ending} {w' : World} {v' : Value} (ok : ∀ x ∈ es, entOk x = true) (hr : rising none es) (he : e = .returned (.tuple #[v', .nilIface])) (ho : Own w' w.heap.size 5 v' (bytesV (imageB es))) (hb : Below w.heap.size w w') : BuildPost w EA es e w' :=
  ⟨fun _ _ => ⟨v', he, ho, hb⟩, fun _ h => absurd hr h, fun h => absurd ok h⟩

set_option maxRecDepth 100000 in
set_option maxHeartbeats 2000000 in
theorem build_any (w : World) (a : Option Addr) (n c : Nat) (es : List EntV) (hr : RdEnt w a n es) (hc : n ≤ c) (hel : es.length ≤ 100000000) (hT : (∀ x ∈ es, entOk x = true) → (imageB es).length ≤ 1000000000) (EA : Nat → Addr) (hE : RErr w EA) :
    Calls Tryd.prog 58 #[.slice a n c] w (BuildPost w EA es) := by
  obtain rfl := hr.1
  have hG := hE.lt
  have HR := Lib.hid hr
  have HE := Lib.hid hE
  have HG := Lib.hid hG
  have HT := Lib.hid hT
  clear hr hE hT hG
  go_enter Tryd.func58, Tryd.ntmps58
  go_wp2
  go_loopw [15] (fun s15 wr => ∃ i : Nat, s15 = .int .i64 i ∧ i ≤ es.length ∧ (∀ j (h : j < es.length), j < i → entOk es[j] = true) ∧ Below w.heap.size w wr) (fun s15 _ => es.length - (intOf s15).toNat)
  case atStart => exact ⟨0, rfl, Nat.zero_le _, fun j h h0 => absurd h0 (Nat.not_lt_zero _), Below.refl _ _⟩
  case round =>
    obtain ⟨i, rfl, hi, hpre, hb⟩ := hrel
    by_cases hlt : i < es.length
    · obtain ⟨b, o, rfl, hat⟩ := (HR.out.below hb (Nat.le_refl _)).at_ (by omega)
      obtain ⟨d0, d1, d2, d3, d4⟩ := hat i hlt
      have hmem : es[i] ∈ es := List.getElem_mem hlt
      obtain ⟨en, hen⟩ : ∃ en, es[i] = en := ⟨_, rfl⟩
      rw [hen] at d0 d1 d2 d3 d4 hmem
      obtain ⟨ek, ed, et, ea, es'⟩ := en
      simp only at d0 d1 d2 d3 d4
      have hE1 := HE.out.below hb HG.out
      have gl := hE1.l
      have gl2 : (wr.alloc (.cells #[.string ek, .int .i64 ed, .int .i64 et, .int .i64 ea, .int .i64 es'] 116)).cell? ⟨5, 0, none⟩ = some (errV EA 3) := (World.cell?_of_block (a := ⟨5, 0, none⟩) (Below.heap_alloc wr _ _ (World.block_lt_of_cell? wr _ gl))).trans gl
      have HPRE := Lib.hid hpre
      have HB := Lib.hid hb
      have HMEM := Lib.hid hmem
      have HEN := Lib.hid hen
      have hes9 : ek.size ≤ 9223372036854775807 ∨ True := .inr trivial
      clear hpre hb hmem hen hat hE1 hes9
      by_cases hk1 : ek.size < 1
      · have t1 : decide ((ek.size : Int) < 1) = true := decide_eq_true (by omega)
        have hno : ¬ entOk ⟨ek, ed, et, ea, es'⟩ = true := fun h => by have := (entOk_key h).1; omega
        have HNO := Lib.hid hno
        have HAL := Lib.hid (fun (o : Obj) => HB.out.alloc HB.out.size o)
        clear hno hk1
        unfold errV at gl gl2
        go_wp2
        go_quiet (fail)
        go_wp2
        go_ret2
        exact BuildPost.lim HMEM.out HNO.out rfl (below_drewN (HAL.out _) _)
      · by_cases hk2 : 65 < ek.size
        · have t1 : decide ((ek.size : Int) < 1) = false := decide_eq_false (by omega)
          have t2 : decide ((65 : Int) < (ek.size : Int)) = true := decide_eq_true (by omega)
          have hno : ¬ entOk ⟨ek, ed, et, ea, es'⟩ = true := fun h => by have := (entOk_key h).2; omega
          have HNO := Lib.hid hno
          have HAL := Lib.hid (fun (o : Obj) => HB.out.alloc HB.out.size o)
          clear hno hk1 hk2
          unfold errV at gl gl2
          go_wp2
          go_quiet (fail)
          go_wp2
          go_ret2
          exact BuildPost.lim HMEM.out HNO.out rfl (below_drewN (HAL.out _) _)
        · have t1 : decide ((ek.size : Int) < 1) = false := decide_eq_false (by omega)
          have t2 : decide ((65 : Int) < (ek.size : Int)) = false := decide_eq_false (by omega)
          have hk1' : 1 ≤ ek.size := by omega
          have hk2' : ek.size ≤ 65 := by omega
          have C1 := fun W => numbers_any W ek ed et ea es'
          have HC1 := Lib.hid C1
          have HB1 := Lib.hid (show Below w.heap.size w (wr.alloc (.cells #[.string ek, .int .i64 ed, .int .i64 et, .int .i64 ea, .int .i64 es'] 116)) from HB.out.alloc HB.out.size _)
          clear hk1 hk2 C1
          go_wp2_with fail
          refine (HC1.out _).mono ?_
          rintro e w2 ⟨rfl, hb2⟩
          have hb02 := HB1.out.trans (hb2.mono HB1.out.size)
          have HB2 := Lib.hid hb02
          clear hb2 hb02 d0 d1 d2 d3 d4 gl gl2
          go_wp2
          obtain ⟨wo, rfl⟩ : ∃ wo : World, wo = wr := ⟨_, rfl⟩
          go_loopw [32] (fun s32 wr => ∃ k : Nat, s32 = .int .i64 k ∧ k ≤ 4 ∧ (∀ j, j < k → numOk (num4 ed et ea es' j) = true) ∧ wr = w2) (fun s32 _ => 4 - (intOf s32).toNat)
          case atStart => exact ⟨0, rfl, Nat.zero_le _, fun j h => absurd h (Nat.not_lt_zero _), rfl⟩
          case round =>
            obtain ⟨k, rfl, hk4, hpk, rfl⟩ := hrel
            have HPK := Lib.hid hpk
            clear hpk
            by_cases hk : k < 4
            · have hix := idx4 ed et ea es' k hk
              obtain ⟨x, hx⟩ : ∃ x, num4 ed et ea es' k = x := ⟨_, rfl⟩
              rw [hx] at hix
              have HX := Lib.hid hx
              have ik : (k : Int) < 4 := by omega
              have hE2 := HE.out.below HB2.out HG.out
              have gl := hE2.l
              clear hx hE2
              by_cases hx0 : x < 0
              · have hno : ¬ entOk ⟨ek, ed, et, ea, es'⟩ = true := fun h => by have := entOk_num4 h k hk; rw [HX.out] at this; have := (of_decide_eq_true this).1; omega
                have HNO := Lib.hid hno
                have t3 : decide (x < 0) = true := decide_eq_true hx0
                clear hno hx0
                unfold errV at gl
                go_wp2
                go_quiet (fail)
                go_wp2
                go_ret2
                exact BuildPost.lim HMEM.out HNO.out rfl (below_drewN HB2.out _)
              · by_cases hx1 : 2147483647 < x
                · have hno : ¬ entOk ⟨ek, ed, et, ea, es'⟩ = true := fun h => by have := entOk_num4 h k hk; rw [HX.out] at this; have := (of_decide_eq_true this).2; omega
                  have HNO := Lib.hid hno
                  have t3 : decide (x < 0) = false := decide_eq_false hx0
                  have t4 : decide (2147483647 < x) = true := decide_eq_true hx1
                  clear hno hx0 hx1
                  unfold errV at gl
                  go_wp2
                  go_quiet (fail)
                  go_wp2
                  go_ret2
                  exact BuildPost.lim HMEM.out HNO.out rfl (below_drewN HB2.out _)
                · have hok : numOk (num4 ed et ea es' k) = true := by rw [HX.out]; exact decide_eq_true ⟨by omega, by omega⟩
                  have HOK := Lib.hid hok
                  have t3 : decide (x < 0) = false := decide_eq_false hx0
                  have t4 : decide (2147483647 < x) = false := decide_eq_false hx1
                  clear hok hx0 hx1 gl
                  go_wp2
                  go_roundw
                  case rel => exact ⟨k + 1, by go_num, by omega, fun j hj => by
                    rcases Nat.lt_or_eq_of_le (Nat.lt_succ_iff.1 hj) with h | h
                    · exact HPK.out j h
                    · subst h; exact HOK.out, by first | rfl | trivial⟩
                  case measure => simp [intOf]; omega
            · have hok : entOk ⟨ek, ed, et, ea, es'⟩ = true := entOk_of hk1' hk2' (fun j hj => HPK.out j (by omega))
              have HOK := Lib.hid hok
              have ik : decide ((k : Int) < 4) = false := decide_eq_false (by omega)
              clear hok hk
              go_wp2
              go_roundw
              case rel => exact ⟨i + 1, by go_num, by omega, fun j h hj => by
                rcases Nat.lt_or_eq_of_le (Nat.lt_succ_iff.1 hj) with h' | h'
                · exact HPRE.out j h h'
                · subst h'; rw [HEN.out]; exact HOK.out, HB2.out⟩
              case measure => simp [intOf]; omega
    · have hok : ∀ x ∈ es, entOk x = true := fun x hx => by
        obtain ⟨j, hj, rfl⟩ := List.getElem_of_mem hx
        exact hpre j hj (by omega)
      have HOK := Lib.hid hok
      have HB := Lib.hid hb
      have HTT := Lib.hid (HT.out hok)
      have hl : decide (i < es.length) = false := decide_eq_false hlt
      clear hok hpre hb
      obtain ⟨w1, rfl⟩ : ∃ w1 : World, w1 = wr := ⟨_, rfl⟩
      go_wp2
      go_loopw [8] (fun s8 wr => ∃ i : Nat, s8 = .int .i64 (i + 1 : Nat) ∧ i ≤ es.length ∧ (∀ j (h : j + 1 < es.length), j < i → Go.Op.bytesLess (es[j]'(by omega)).K es[j + 1].K = true) ∧ ∃ d, wr = w1.drewN d) (fun s8 _ => es.length - (intOf s8).toNat)
      case atStart => exact ⟨0, rfl, Nat.zero_le _, fun j h h0 => absurd h0 (Nat.not_lt_zero _), 0, rfl⟩
      case round =>
        obtain ⟨j, rfl, hj, hpre, dd, rfl⟩ := hrel
        by_cases hlt2 : j + 1 < es.length
        · obtain ⟨b, o, rfl, hat⟩ := (HR.out.below HB.out (Nat.le_refl _)).at_ (by omega)
          have g1 := (hat (j + 1) hlt2).k
          have g2 := (hat j (by omega)).k
          have hE1 := HE.out.below HB.out HG.out
          have gl := hE1.o
          obtain ⟨k1, hk1⟩ : ∃ k1, (es[j + 1]).k = k1 := ⟨_, rfl⟩
          obtain ⟨k2, hk2⟩ : ∃ k2, (es[j]'(by omega)).k = k2 := ⟨_, rfl⟩
          rw [hk1] at g1
          rw [hk2] at g2
          have hles : Go.Op.bytesLess (es[j]'(by omega)).K es[j + 1].K = Go.Op.bytesLess k2.data.toList k1.data.toList := by unfold EntV.K; rw [hk1, hk2]
          have tb := bl_gt k1.toList k2.toList
          rw [ba_list k1, ba_list k2] at tb
          have q1 : IntKind.i64.wrap (((j + 1 : Nat) : Int) - 1) = (j : Int) := (IntWalk.i64_in _ (by omega)).trans (by omega)
          have q2 : IntKind.i64.wrap ((j : Int) + 1 - 1) = (j : Int) := (IntWalk.i64_in _ (by omega)).trans (by omega)
          have q3 : IntKind.i64.wrap (j : Int) = (j : Int) := IntWalk.i64_in _ (by omega)
          have i1 : (j : Int) < (es.length : Int) := by omega
          have i2 : (j : Int) + 1 < (es.length : Int) := by omega
          have HPRE := Lib.hid hpre
          have HLES := Lib.hid hles
          clear hk1 hk2 hat hles hpre hE1
          cases hab : Go.Op.bytesLess k2.data.toList k1.data.toList with
          | true =>
            have tB : (Go.Op.bytesLess k1.toList k2.toList || k1.toList == k2.toList) = false := by
              rw [ba_list k1, ba_list k2]; rw [hab] at tb
              cases hx : (Go.Op.bytesLess k1.data.toList k2.data.toList || k1.data.toList == k2.data.toList) with
              | false => rfl
              | true => rw [hx] at tb; cases tb
            have HAB := Lib.hid (HLES.out.trans hab)
            clear hab tb gl
            go_wp2
            go_quiet (fail)
            go_wp2
            go_roundw
            case rel => exact ⟨j + 1, by go_num, by omega, fun j' h hj' => by
              rcases Nat.lt_or_eq_of_le (Nat.lt_succ_iff.1 hj') with h' | h'
              · exact HPRE.out j' h h'
              · subst h'; exact HAB.out, _, rfl⟩
            case measure => simp [intOf]; omega
          | false =>
            have tB : (Go.Op.bytesLess k1.toList k2.toList || k1.toList == k2.toList) = true := by
              rw [ba_list k1, ba_list k2]; rw [hab] at tb
              cases hx : (Go.Op.bytesLess k1.data.toList k2.data.toList || k1.data.toList == k2.data.toList) with
              | true => rfl
              | false => rw [hx] at tb; cases tb
            have HAB := Lib.hid (HLES.out.trans hab)
            have hnr : ¬ rising none es := fun h => by have := (rising_none es).1 h j hlt2; rw [HAB.out] at this; cases this
            have HNR := Lib.hid hnr
            clear hab tb hnr
            unfold errV at gl
            go_wp2
            go_quiet (fail)
            go_wp2
            go_quiet (fail)
            go_wp2
            go_ret2
            exact BuildPost.ord HOK.out HNR.out rfl (below_drewN (below_drewN (below_drewN HB.out _) _) _)
        · have hris : rising none es := (rising_none es).2 fun j' h => hpre j' h (by omega)
          have HRIS := Lib.hid hris
          have hl2 : decide (j + 1 < es.length) = false := decide_eq_false hlt2
          have hz1 := HB.out.size
          obtain ⟨w2, hw2⟩ : ∃ w2, w2 = (w1.drewN dd).alloc (.cells #[.slice none 0 0] 164) := ⟨_, rfl⟩
          have hb2 : Below w.heap.size w w2 := by rw [hw2]; exact (below_drewN HB.out dd).alloc hz1 _
          have hwr2 : Wr w2 w.heap.size w1.heap.size (.slice none 0 0) [] := by rw [hw2]; exact (wr_new (w1.drewN dd)).low hz1
          have C2 := wuv_any w2 w.heap.size w1.heap.size _ [] hwr2 hb2.size (by simp) es.length (by omega)
          have HW2 := Lib.hid hw2
          have HB2 := Lib.hid hb2
          have HWR2 := Lib.hid hwr2
          clear hris hpre hw2 hb2 hwr2 HB
          go_wp2_with fail
          refine (nw_any _).mono ?_
          rintro e w2' ⟨rfl, rfl⟩
          rw [← HW2.out]
          go_wp2_with fail
          refine C2.mono ?_
          rintro e w3 ⟨rfl, v3, hw3, hwr3⟩
          clear C2
          have hb3 : Below w.heap.size w w3 := HB2.out.trans (hwr3.below HWR2.out HB2.out.size)
          obtain ⟨w4, hw4⟩ : ∃ w4, w4 = w3.alloc (.cells #[.slice none 0 0] 164) := ⟨_, rfl⟩
          have hb4 : Below w.heap.size w w4 := by rw [hw4]; exact hb3.alloc hb3.size _
          have hwa4 : Wr w4 w.heap.size w1.heap.size v3 ([] ++ uvar es.length) := by rw [hw4]; exact hw3.eff (F := fun _ => False) ((Eff.refl _ _).alloc _) (fun _ _ f => f)
          have hwb4 : Wr w4 w.heap.size w3.heap.size (.slice none 0 0) [] := by rw [hw4]; exact (wr_new w3).low hb3.size
          have hap4 : Apart2 w1.heap.size v3 w3.heap.size (.slice none 0 0) := by
            rintro k hk (rfl | hk2)
            · have := (hw3.ge _ hk).2; omega
            · simp [Value.ownBlock] at hk2
          rw [List.nil_append] at hwa4
          obtain ⟨p1, hp1⟩ : ∃ p1, w1.heap.size = p1 := ⟨_, rfl⟩
          obtain ⟨p2, hp2⟩ : ∃ p2, w3.heap.size = p2 := ⟨_, rfl⟩
          rw [hp1] at hwa4 hap4 ⊢
          rw [hp2] at hwb4 hap4
          have HW4 := Lib.hid hw4
          have HB4 := Lib.hid hb4
          have HWA4 := Lib.hid hwa4
          have HWB4 := Lib.hid hwb4
          have HAP4 := Lib.hid hap4
          have HP2 := Lib.hid hp2
          clear hw4 hb4 hwa4 hwb4 hap4 hp1 hp2 hw3 hwr3 hb3
          go_wp2_with fail
          refine (nw_any _).mono ?_
          rintro e w4' ⟨rfl, rfl⟩
          rw [← HW4.out, HP2.out]
          go_wp2
          go_loopw [11] (fun s11 wr => ∃ (f : Nat) (v1 v2 : Value) (S B : List UInt8), s11 = .int .i64 f ∧ f ≤ es.length + 16 ∧ Wr wr w.heap.size p1 v1 (uvar es.length ++ S) ∧ Wr wr w.heap.size p2 v2 B ∧ Apart2 p1 v1 p2 v2 ∧ Below w.heap.size w wr ∧ (uvar es.length ++ S) ++ ((chk (es.drop f)).flatMap (fun c => uvar (blkB [] c).length) ++ (B ++ (chk (es.drop f)).flatMap (blkB []))) = imageB es) (fun s11 _ => es.length - (intOf s11).toNat)
          case atStart => exact ⟨0, v3, _, [], [], rfl, by omega, by rw [List.append_nil]; exact HWA4.out, HWB4.out, HAP4.out, HB4.out, by rw [List.append_nil, List.nil_append]; rfl⟩
          case round =>
            clear HWA4 HWB4 HAP4 HB4
            obtain ⟨f, v1, v2, S, B, rfl, hf, hw1, hw2, hap, hb, htot⟩ := hrel
            have hlen : (uvar es.length ++ S).length + B.length ≤ 1000000000 := by
              have := congrArg List.length htot
              have h2 := HTT.out
              simp only [List.length_append] at this ⊢; omega
            by_cases hlt3 : f < es.length
            · obtain ⟨b, o, rfl, hat⟩ := (HR.out.below hb (Nat.le_refl _)).at_ (by omega)
              obtain ⟨hi3, hhi⟩ : ∃ hi3, min (f + 16) es.length = hi3 := ⟨_, rfl⟩
              have hh1 : f < hi3 ∧ hi3 ≤ es.length ∧ hi3 ≤ f + 16 := by omega
              have hmin : min ((f : Int) + 16) (es.length : Int) = (hi3 : Int) := by omega
              have hpart : (es.take hi3).drop f = (es.drop f).take 16 := by
                rw [List.drop_take]
                by_cases h16 : f + 16 ≤ es.length
                · rw [show hi3 - f = 16 by omega]
                · rw [List.take_of_length_le (by rw [List.length_drop]; omega), List.take_of_length_le (by rw [List.length_drop]; omega)]
              have hrp : RdEnt wr (some ⟨b, o + f * 5, none⟩) (hi3 - f) ((es.take hi3).drop f) := rdEnt_of (by rw [List.length_drop, List.length_take, Nat.min_eq_left hh1.2.1]) (rdEnt_part hat f hi3 hh1.2.1)
              have hne : es.drop f ≠ [] := fun e => by have := congrArg List.length e; simp at this; omega
              have hchk := chk_cons hne
              rw [List.drop_drop] at hchk
              rw [hpart] at hrp
              obtain ⟨part, hpt⟩ : ∃ part, (es.drop f).take 16 = part := ⟨_, rfl⟩
              rw [hpt] at hrp hchk
              have hpok : ∀ e ∈ part, entOk e = true := fun e he => by rw [← hpt] at he; exact HOK.out e (List.mem_of_mem_drop (List.mem_of_mem_take he))
              have hpl : part.length ≤ 1000000000 := by rw [← hpt, List.length_take]; omega
              rw [hchk] at htot
              simp only [List.flatMap_cons] at htot
              have hlen2 : (uvar es.length ++ S).length + (uvar (blkB [] part).length).length + B.length + (blkB [] part).length ≤ 1000000000 := by
                have := congrArg List.length htot
                have h2 := HTT.out
                simp only [List.length_append] at this ⊢; omega
              have C1 := blockOf_any wr (some ⟨b, o + f * 5, none⟩) (hi3 - f) (c - f) part hrp hpok hpl (by omega)
              have htot2 : (uvar es.length ++ (S ++ uvar (blkB [] part).length)) ++ ((chk (es.drop (f + 16))).flatMap (fun c => uvar (blkB [] c).length) ++ ((B ++ blkB [] part) ++ (chk (es.drop (f + 16))).flatMap (blkB []))) = imageB es := by
                rw [← htot]; simp only [List.append_assoc]
              obtain ⟨T, hTb⟩ : ∃ T, blkB [] part = T := ⟨_, rfl⟩
              rw [hTb] at C1 htot2 hlen2
              have HTOT := Lib.hid htot2
              have HWA := Lib.hid hw1
              have HWB := Lib.hid hw2
              have HAP := Lib.hid hap
              have HB := Lib.hid hb
              clear hpart hrp hne hchk hpt hpok htot htot2 hTb hw1 hw2 hap hb hat hhi hlen
              go_wp2_with fail
              refine C1.mono ?_
              rintro e w5 ⟨v5, rfl, ho5, hb5⟩
              clear C1 hmin
              have hwa5 := HWA.out.eff (Eff.of_below hb5 (fun _ => False)) (fun _ _ f => f)
              have hwb5 := HWB.out.eff (Eff.of_below hb5 (fun _ => False)) (fun _ _ f => f)
              have hb05 := HB.out.trans (hb5.mono HB.out.size)
              obtain ⟨a5, n5, c5, rfl⟩ := own_sl ho5
              have hn5 := ho5.len
              rw [bytesV_length] at hn5
              have hu := (uvar_le T.length (by omega)).2
              have C2 := wuv_any w5 w.heap.size p1 v1 _ hwa5 hb05.size (by omega) T.length (by omega)
              rw [← hn5] at C2
              have HWA5 := Lib.hid hwa5
              have HWB5 := Lib.hid hwb5
              have HB5 := Lib.hid hb05
              have HO5 := Lib.hid ho5
              have HN5 := Lib.hid hn5
              have hn59 : n5 ≤ 1000000000 := by omega
              clear hwa5 hwb5 hb05 ho5 hb5 hn5
              go_wp2_with fail
              refine C2.mono ?_
              rintro e w6 ⟨rfl, v6, hw6, hwr6⟩
              clear C2
              rw [HN5.out, List.append_assoc] at hw6
              have hb6 := HB5.out.trans (hwr6.below HWA5.out HB5.out.size)
              have hwb6 := HWB5.out.eff hwr6.eff (fun k hk hf => HAP.out k hf hk)
              have hap6 : Apart2 p1 v6 p2 v2 := HAP.out.left hwr6 HWB5.out
              have ho6 : Own w6 wr.heap.size 5 (.slice a5 n5 c5) (bytesV T) := HO5.out.eff hwr6.eff (fun k hk hf => by
                have h1 := (HO5.out.lt k hk).1
                have h2 := (HWA.out.ge k hf).2
                omega)
              have C3 := wraw_any w6 w.heap.size p2 v2 B hwb6 hb6.size (by omega) (.slice a5 n5 c5) T ho6.rd (by omega)
              have HWA6 := Lib.hid hw6
              have HWB6 := Lib.hid hwb6
              have HAP6 := Lib.hid hap6
              have HB6 := Lib.hid hb6
              clear hw6 hwb6 hap6 hb6 ho6 hwr6
              go_wp2_with fail
              refine C3.mono ?_
              rintro e w7 ⟨rfl, v7, hw7, hwr7⟩
              clear C3
              have hwa7 := HWA6.out.eff hwr7.eff (fun k hk hf => HAP6.out k hk hf)
              have hap7 := HAP6.out.right hwr7 HWA6.out
              have hb7 := HB6.out.trans (hwr7.below HWB6.out HB6.out.size)
              have HWA7 := Lib.hid hwa7
              have HWB7 := Lib.hid hw7
              have HAP7 := Lib.hid hap7
              have HB7 := Lib.hid hb7
              clear hwa7 hw7 hap7 hb7 hwr7
              go_wp2
              go_roundw
              case rel => exact ⟨f + 16, v6, v7, _, _, by go_num, by omega, HWA7.out, HWB7.out, HAP7.out, HB7.out, HTOT.out⟩
              case measure => simp [intOf]; omega
            · have hnil : es.drop f = [] := List.drop_eq_nil_of_le (by omega)
              rw [hnil, chk_nil] at htot
              simp only [List.flatMap_nil, List.nil_append, List.append_nil] at htot
              have hl3 : decide (f < es.length) = false := decide_eq_false hlt3
              have C1 := wbytes_any wr w.heap.size p2 v2 B hw2 (by omega)
              have HTOT := Lib.hid htot
              have HWA := Lib.hid hw1
              have HB := Lib.hid hb
              have hUS : (uvar es.length ++ S).length ≤ 1000000000 := by omega
              have hBl : B.length ≤ 1000000000 := by omega
              clear hnil htot hw1 hw2 hap hb hlen
              go_wp2_with fail
              refine C1.mono ?_
              rintro e w5 ⟨v5, rfl, ho5, hb5⟩
              clear C1
              have hwa5 := HWA.out.eff (Eff.of_below hb5 (fun _ => False)) (fun _ _ f => f)
              have hb05 := HB.out.trans (hb5.mono HB.out.size)
              obtain ⟨a5, n5, c5, rfl⟩ := own_sl ho5
              have C2 := wraw_any w5 w.heap.size p1 v1 _ hwa5 hb05.size (by omega) (.slice a5 n5 c5) B ho5.rd (by omega)
              rw [HTOT.out] at C2
              have HWA5 := Lib.hid hwa5
              have HB5 := Lib.hid hb05
              clear hwa5 hb05 ho5 hb5
              go_wp2_with fail
              refine C2.mono ?_
              rintro e w6 ⟨rfl, v6, hw6, hwr6⟩
              clear C2
              have hb6 := HB5.out.trans (hwr6.below HWA5.out HB5.out.size)
              have C3 := wbytes_any w6 w.heap.size p1 v6 _ hw6 HTT.out
              have HB6 := Lib.hid hb6
              clear hw6 hb6 hwr6
              go_wp2_with fail
              refine C3.mono ?_
              rintro e w7 ⟨v7, rfl, ho7, hb7⟩
              clear C3
              have ho07 := own_base ho7 HB6.out.size
              have hb07 := HB6.out.trans (hb7.mono HB6.out.size)
              have HO7 := Lib.hid ho07
              have HB7 := Lib.hid hb07
              clear ho7 hb7 ho07 hb07
              go_wp2
              go_ret2
              exact BuildPost.ok HOK.out HRIS.out rfl HO7.out HB7.out
end Go.Proofs.YtejmjjgbbojfbaaDoor
