/- The document's dictionary: number, Check, uvarint, shared. -/
import Derived.Test.YtfeldllcpeibcaaDoorDictW
import Derived.Handy
namespace Go.Proofs.YtfeldllcpeibcaaDoor
set_option linter.unusedVariables false
open Go.ChangeShapes Go.WideShapes Go.ChangeAt Go.RowKit

set_option maxRecDepth 100000 in
theorem rnum_any (w : World) (x : Int) : Calls Tryd.prog 72 #[.int .i64 x] w fun e w' => e = .returned (.bool (numOk x)) ∧ w = w' := by
  unfold numOk
  by_cases h0 : 0 ≤ x
  · by_cases h1 : x ≤ 2147483647
    · have e : decide (0 ≤ x ∧ x ≤ 2147483647) = true := decide_eq_true ⟨h0, h1⟩
      rw [e]
      have t0 : decide (0 ≤ x) = true := decide_eq_true h0
      have t1 : decide (x ≤ 2147483647) = true := decide_eq_true h1
      clear e h0 h1
      go_enter Tryd.func72, Tryd.ntmps72
      go_wp2
      go_ret
      exact ⟨rfl, rfl⟩
    · have e : decide (0 ≤ x ∧ x ≤ 2147483647) = false := decide_eq_false (fun h => h1 h.2)
      rw [e]
      have t0 : decide (0 ≤ x) = true := decide_eq_true h0
      have t1 : decide (x ≤ 2147483647) = false := decide_eq_false h1
      clear e h0 h1
      go_enter Tryd.func72, Tryd.ntmps72
      go_wp2
      go_ret
      exact ⟨rfl, rfl⟩
  · have e : decide (0 ≤ x ∧ x ≤ 2147483647) = false := decide_eq_false (fun h => h0 h.1)
    rw [e]
    have t0 : decide (0 ≤ x) = false := decide_eq_false h0
    clear e h0
    go_enter Tryd.func72, Tryd.ntmps72
    go_wp2
    go_ret
    exact ⟨rfl, rfl⟩
set_option maxRecDepth 100000 in
theorem rshr_any (w : World) (a b : ByteArray) (ha : a.size ≤ 1000000000000) (hb : b.size ≤ 1000000000000) :
    Calls Tryd.prog 73 #[.string a, .string b] w fun e w' => e = .returned (.int .i64 (shr a.data.toList b.data.toList : Nat)) ∧ ∃ d, w' = w.drewN d := by
  have hal : a.data.toList.length = a.size := Array.length_toList (xs := a.data)
  have hbl : b.data.toList.length = b.size := Array.length_toList (xs := b.data)
  have hle := shr_le a.data.toList b.data.toList
  have hst := shr_step a.data.toList b.data.toList
  rw [hal, hbl] at hle
  obtain ⟨n, hn⟩ : ∃ n, shr a.data.toList b.data.toList = n := ⟨_, rfl⟩
  rw [hn] at hle ⊢
  have hs2 : ∀ k, k ≤ n → (k < n ↔ ∃ (h1 : k < a.size) (h2 : k < b.size), ((a[k]'h1).toNat : Int) = ((b[k]'h2).toNat : Int)) := fun k hk => by
    rw [← hn, hst k (by omega)]
    constructor
    · rintro ⟨h1, h2, e⟩
      refine ⟨by omega, by omega, ?_⟩
      exact congrArg (fun x : UInt8 => ((x.toNat : Nat) : Int)) e
    · rintro ⟨h1, h2, e⟩
      refine ⟨by omega, by omega, ?_⟩
      exact UInt8.toNat_inj.1 (Int.ofNat_inj.1 e)
  have HS := Lib.hid hs2
  clear hal hbl hst hn hs2
  go_enter Tryd.func73, Tryd.ntmps73
  go_wp2
  go_loopw [5] (fun s5 wr => ∃ k d : Nat, s5 = .int .i64 k ∧ k ≤ n ∧ wr = w.drewN d) (fun s5 _ => n - (intOf s5).toNat)
  case atStart => exact ⟨0, 0, rfl, Nat.zero_le _, rfl⟩
  case round =>
    obtain ⟨k, d, rfl, hk, rfl⟩ := hrel
    have hst := HS.out k hk
    by_cases hlt : k < n
    · obtain ⟨h1, h2, e⟩ := hst.1 hlt
      have i1 : (k : Int) < (a.size : Int) := by omega
      have i2 : (k : Int) < (b.size : Int) := by omega
      have t3 : (((a[k]'h1).toNat : Int) == ((b[k]'h2).toNat : Int)) = true := by rw [beq_iff_eq]; exact e
      have E := Lib.hid e
      clear hst e
      go_wp2
      go_quiet (fail)
      go_wp2
      go_roundw
      case rel => exact ⟨k + 1, _, by go_num, by omega, rfl⟩
      case measure => simp [intOf]; omega
    · by_cases h1 : k < a.size
      · by_cases h2 : k < b.size
        · have i1 : (k : Int) < (a.size : Int) := by omega
          have i2 : (k : Int) < (b.size : Int) := by omega
          have t3 : (((a[k]'h1).toNat : Int) == ((b[k]'h2).toNat : Int)) = false := by
            rw [beq_eq_false_iff_ne]; exact fun e => hlt (hst.2 ⟨h1, h2, e⟩)
          clear hst
          obtain rfl : k = n := by omega
          go_wp2
          go_quiet (fail)
          go_wp2
          go_ret
          exact ⟨rfl, _, World.drewN_drewN _ _ _⟩
        · have t2 : decide (k < b.size) = false := decide_eq_false h2
          clear hst
          obtain rfl : k = n := by omega
          go_wp2
          go_quiet (fail)
          go_wp2
          go_ret
          exact ⟨rfl, _, World.drewN_drewN _ _ _⟩
      · have t1 : decide (k < a.size) = false := decide_eq_false h1
        clear hst
        obtain rfl : k = n := by omega
        go_wp2
        go_quiet (fail)
        go_wp2
        go_ret
        exact ⟨rfl, _, World.drewN_drewN _ _ _⟩

/-! ### Lists of bytes that grow -/
/-- From w to w' the list v has become v': nothing else that was there has turned. -/
structure Grew (w w' : World) (v v' : Value) : Prop where
  eff : Eff (fun k => v.ownBlock = some k) w w'
  fresh : Fresh w.heap.size v v'
theorem Grew.refl (w : World) (v : Value) : Grew w w v v := ⟨Eff.refl _ _, Fresh.refl _ _⟩
theorem Grew.trans {a b c : World} {u v x : Value} (h : Grew a b u v) (k : Grew b c v x) : Grew a c u x :=
  ⟨h.eff.trans k.eff (fun i hi hlt => by
    rcases h.fresh i hi with h2 | h2
    · exact h2
    · omega), h.fresh.trans k.fresh h.eff.size⟩
theorem Grew.of {w w' : World} {v v' : Value} (hg : w.grownBy w' v.ownBlock) (h : v'.ownBlock = v.ownBlock ∨ ∃ k, v'.ownBlock = some k ∧ w.heap.size ≤ k) : Grew w w' v v' :=
  ⟨(Eff.refl _ _).grown hg (fun i hi _ => hi), fun k hk => by
    rcases h with h | ⟨j, h1, h2⟩
    · exact .inl (h ▸ hk)
    · rw [h1] at hk; injection hk with hk; subst hk; exact .inr h2⟩
theorem Grew.below {w w' : World} {base : Nat} {e : TypeId} {v v' : Value} {xs : List Value} (h : Grew w w' v v') (ho : Own w base e v xs) (hb : base ≤ w.heap.size) : Below base w w' := h.eff.below (fun k hk => (ho.lt k hk).1) hb
theorem Grew.after {a b c : World} {v v' : Value} (hb : Below a.heap.size a b) (h : Grew b c v v') (hv : ∀ k, v.ownBlock = some k → k < a.heap.size) : Grew a c v v' :=
  ⟨(Eff.of_below hb _).trans h.eff (fun i hi _ => hi), fun k hk => (h.fresh k hk).imp id (fun h2 => Nat.le_trans hb.size h2)⟩
/-- Two lists lie apart. -/
def ApartV (v1 v2 : Value) : Prop := ∀ k, v1.ownBlock = some k → v2.ownBlock ≠ some k
theorem ApartV.left {w w' : World} {base : Nat} {e : TypeId} {v1 v1' v2 : Value} {xs : List Value} (h : ApartV v1 v2) (hw : Grew w w' v1 v1') (h2 : Own w base e v2 xs) : ApartV v1' v2 := by
  intro k hk hk2
  rcases hw.fresh k hk with hk | hk
  · exact h k hk hk2
  · have := (h2.lt k hk2).2; omega
theorem ApartV.symm {v1 v2 : Value} (h : ApartV v1 v2) : ApartV v2 v1 := fun k h2 h1 => h k h1 h2

set_option maxRecDepth 100000 in
set_option maxHeartbeats 1000000 in
theorem ruv_grow (w : World) (base : Nat) (a0 : Option Addr) (n0 c0 : Nat) (bs : List UInt8) (h : Own w base 5 (.slice a0 n0 c0) (bytesV bs)) (hb : base ≤ w.heap.size) (hl : bs.length ≤ 100000000000) (n : Nat) (hn : (n : Int) ≤ 9223372036854775807) :
    Calls Tryd.prog 43 #[.slice a0 n0 c0, .int .i64 n] w fun e w' => ∃ v', e = .returned v' ∧ Own w' base 5 v' (bytesV (bs ++ uvar n)) ∧ Grew w w' (.slice a0 n0 c0) v' := by
  have hN : (uvar n).length ≤ 10 := (uvar_le n (by omega)).2
  have H := Lib.hid h
  clear h
  go_enter Tryd.func43, Tryd.ntmps43
  go_wp2
  go_loopw [0, 1] (fun s0 s1 wr => ∃ (m : Nat) (A : Option Addr) (N C : Nat) (acc : List UInt8), s0 = .slice A N C ∧ s1 = .int .i64 m ∧ (m : Int) ≤ 9223372036854775807 ∧ Own wr base 5 (.slice A N C) (bytesV (bs ++ acc)) ∧ acc ++ uvar m = uvar n ∧ Grew w wr (.slice a0 n0 c0) (.slice A N C)) (fun _ s1 _ => (intOf s1).toNat)
  case atStart => exact ⟨n, a0, n0, c0, [], rfl, rfl, hn, by rw [List.append_nil]; exact H.out, rfl, Grew.refl _ _⟩
  case round =>
    obtain ⟨m, A, N, C, acc, rfl, rfl, hm, ho, hacc, hg⟩ := hrel
    have hal : (bytesV (bs ++ acc)).length < 1000000000000 := by
      have := congrArg List.length hacc
      rw [List.length_append] at this
      rw [bytesV_length, List.length_append]; omega
    have hzb : base ≤ wr.heap.size := Nat.le_trans hb hg.eff.size
    have HO := Lib.hid ho
    have HG := Lib.hid hg
    have HAL := Lib.hid hal
    by_cases hlt : m < 128
    · have hu : acc ++ [UInt8.ofNat m] = uvar n := by rw [← hacc, uvar_small hlt]
      have HU := Lib.hid hu
      have t1 : decide ((128 : Int) ≤ (m : Int)) = false := decide_eq_false (by omega)
      have im : (m : Int) < 128 := by omega
      clear hu hacc ho hg hal
      go_wp2_with (at_builtin; with_reducible refine ap1' elBytes rfl HO.out HAL.out hzb rfl _ _ rfl rfl rfl ?_)
      intro v' w' ho' _ hor hgr
      have ho2 : Own w' base 5 v' (bytesV (bs ++ uvar n)) := by
        rw [← HU.out, ← List.append_assoc, bytesV_snoc]
        refine own_last ho' ?_
        rw [u8_ofNat]
        try (rw [IntKind.wrap_u8])
        omega
      have hg2 := HG.out.trans (Grew.of hgr (hor.imp id (fun h => ⟨_, h.1, by omega⟩)))
      have HO2 := Lib.hid ho2
      have HG2 := Lib.hid hg2
      clear ho' hor hgr ho2 hg2
      go_wp2
      go_ret
      exact ⟨_, rfl, HO2.out, HG2.out⟩
    · have hu : (acc ++ [UInt8.ofNat (128 + m % 128)]) ++ uvar (m / 128) = uvar n := by rw [← hacc, uvar_big hlt]; simp
      have HU := Lib.hid hu
      have t1 : decide ((128 : Int) ≤ (m : Int)) = true := decide_eq_true (by omega)
      have im : (128 : Int) ≤ (m : Int) := by omega
      clear hu hacc ho hg hal
      go_wp2_with (at_builtin; with_reducible refine ap1' elBytes rfl HO.out HAL.out hzb rfl _ _ rfl rfl rfl ?_)
      intro v' w' ho' _ hor hgr
      obtain ⟨A2, N2, C2, rfl⟩ := own_sl ho'
      have ho2 : Own w' base 5 (.slice A2 N2 C2) (bytesV (bs ++ (acc ++ [UInt8.ofNat (128 + m % 128)]))) := by
        rw [← List.append_assoc, bytesV_snoc]
        refine own_last ho' ?_
        rw [u8_ofNat]
        try (rw [IntKind.wrap_u8])
        omega
      have hg2 := HG.out.trans (Grew.of hgr (hor.imp id (fun h => ⟨_, h.1, by omega⟩)))
      have HO2 := Lib.hid ho2
      have HG2 := Lib.hid hg2
      clear ho' hor hgr ho2 hg2
      go_wp2
      go_roundw
      case rel => exact ⟨m / 128, A2, N2, C2, _, rfl, by go_num, by omega, HO2.out, HU.out, HG2.out⟩
      case measure => simp [intOf]; omega

/-- What Check answers. -/
def CkPost (w : World) (es : List EntV) (e : Ending) (w' : World) : Prop :=
  ((∀ x ∈ es, entOk x = true) → rising none es → e = .returned (.int .i64 0) ∧ Below w.heap.size w w') ∧
  ((∀ x ∈ es, entOk x = true) → ¬ rising none es → e = .returned (.int .i64 4) ∧ Below w.heap.size w w') ∧
  (¬ (∀ x ∈ es, entOk x = true) → e = .returned (.int .i64 3) ∧ Below w.heap.size w w')
theorem CkPost.lim {w : World} {es : List EntV} {e : Ending} {w' : World} {x : EntV} (hx : x ∈ es) (hn : ¬ entOk x = true) (he : e = .returned (.int .i64 3)) (hb : Below w.heap.size w w') : CkPost w es e w' :=
  ⟨fun h => absurd (h x hx) hn, fun h => absurd (h x hx) hn, fun _ => ⟨he, hb⟩⟩
theorem CkPost.ord {w : World} {es : List EntV} {e : Ending} {w' : World} (ok : ∀ x ∈ es, entOk x = true) (hn : ¬ rising none es) (he : e = .returned (.int .i64 4)) (hb : Below w.heap.size w w') : CkPost w es e w' :=
  ⟨fun _ h => absurd h hn, fun _ _ => ⟨he, hb⟩, fun h => absurd ok h⟩
theorem CkPost.ok {w : World} {es : List EntV} {e : Ending} {w' : World} (ok : ∀ x ∈ es, entOk x = true) (hr : rising none es) (he : e = .returned (.int .i64 0)) (hb : Below w.heap.size w w') : CkPost w es e w' :=
  ⟨fun _ _ => ⟨he, hb⟩, fun _ h => absurd hr h, fun h => absurd ok h⟩
set_option maxRecDepth 100000 in
set_option maxHeartbeats 2000000 in
theorem rcheck_any (w : World) (a : Option Addr) (n c : Nat) (es : List EntV) (hr : RdEnt w a n es) (hel : es.length ≤ 1000000000) :
    Calls Tryd.prog 42 #[.slice a n c] w (CkPost w es) := by
  obtain rfl := hr.1
  have HR := Lib.hid hr
  clear hr
  go_enter Tryd.func42, Tryd.ntmps42
  go_wp2
  go_loopw [3] (fun s3 wr => ∃ i : Nat, s3 = .int .i64 i ∧ i ≤ es.length ∧ (∀ j (h : j < es.length), j < i → entOk es[j] = true) ∧ Below w.heap.size w wr) (fun s3 _ => es.length - (intOf s3).toNat)
  case atStart => exact ⟨0, rfl, Nat.zero_le _, fun j h h0 => absurd h0 (Nat.not_lt_zero _), Below.refl _ _⟩
  case round =>
    obtain ⟨i, rfl, hi, hpre, hb⟩ := hrel
    by_cases hlt : i < es.length
    · obtain ⟨b, o, rfl, hat⟩ := (HR.out.below hb (Nat.le_refl _)).at_ (by omega)
      obtain ⟨d0, d1, d2, d3, d4⟩ := hat i hlt
      have hmem : es[i] ∈ es := List.getElem_mem hlt
      obtain ⟨en, hen⟩ : ∃ en, es[i] = en := ⟨_, rfl⟩
      rw [hen] at d0 d1 d2 d3 d4 hmem
      obtain ⟨ek, ed, et, ea, es'⟩ := en
      simp only at d0 d1 d2 d3 d4
      have HPRE := Lib.hid hpre
      have HB := Lib.hid hb
      have HMEM := Lib.hid hmem
      have HEN := Lib.hid hen
      have i1 : (i : Int) < (es.length : Int) := by omega
      have HAL := Lib.hid (fun (o : Obj) => HB.out.alloc HB.out.size o)
      clear hpre hb hmem hen hat
      by_cases hk1 : ek.size < 1
      · have t1 : decide ((ek.size : Int) < 1) = true := decide_eq_true (by omega)
        have HNO := Lib.hid (show ¬ entOk ⟨ek, ed, et, ea, es'⟩ = true from fun h => by have := (entOk_key h).1; omega)
        clear hk1
        go_wp2_with (go_at_call 72; refine (rnum_any _ _).mono ?_; rintro e w' ⟨rfl, rfl⟩)
        go_ret
        exact CkPost.lim HMEM.out HNO.out rfl (HAL.out _)
      have t1 : decide ((ek.size : Int) < 1) = false := decide_eq_false (by omega)
      by_cases hk2 : 65 < ek.size
      · have t2 : decide ((65 : Int) < (ek.size : Int)) = true := decide_eq_true (by omega)
        have HNO := Lib.hid (show ¬ entOk ⟨ek, ed, et, ea, es'⟩ = true from fun h => by have := (entOk_key h).2; omega)
        clear hk1 hk2
        go_wp2_with (go_at_call 72; refine (rnum_any _ _).mono ?_; rintro e w' ⟨rfl, rfl⟩)
        go_ret
        exact CkPost.lim HMEM.out HNO.out rfl (HAL.out _)
      have t2 : decide ((65 : Int) < (ek.size : Int)) = false := decide_eq_false (by omega)
      have HK := Lib.hid (show 1 ≤ ek.size ∧ ek.size ≤ 65 by omega)
      clear hk1 hk2
      by_cases hn0 : numOk ed = false
      · have HNO := Lib.hid (show ¬ entOk ⟨ek, ed, et, ea, es'⟩ = true from fun h => by have := (entOk_num h).1; rw [show numOk _ = false from hn0] at this; cases this)
        go_wp2_with (go_at_call 72; refine (rnum_any _ _).mono ?_; rintro e w' ⟨rfl, rfl⟩)
        go_ret
        exact CkPost.lim HMEM.out HNO.out rfl (HAL.out _)
      replace hn0 : numOk ed = true := by simpa using hn0
      by_cases hn1 : numOk et = false
      · have HNO := Lib.hid (show ¬ entOk ⟨ek, ed, et, ea, es'⟩ = true from fun h => by have := (entOk_num h).2.1; rw [show numOk _ = false from hn1] at this; cases this)
        go_wp2_with (go_at_call 72; refine (rnum_any _ _).mono ?_; rintro e w' ⟨rfl, rfl⟩)
        go_ret
        exact CkPost.lim HMEM.out HNO.out rfl (HAL.out _)
      replace hn1 : numOk et = true := by simpa using hn1
      by_cases hn2 : numOk ea = false
      · have HNO := Lib.hid (show ¬ entOk ⟨ek, ed, et, ea, es'⟩ = true from fun h => by have := (entOk_num h).2.2.1; rw [show numOk _ = false from hn2] at this; cases this)
        go_wp2_with (go_at_call 72; refine (rnum_any _ _).mono ?_; rintro e w' ⟨rfl, rfl⟩)
        go_ret
        exact CkPost.lim HMEM.out HNO.out rfl (HAL.out _)
      replace hn2 : numOk ea = true := by simpa using hn2
      by_cases hn3 : numOk es' = false
      · have HNO := Lib.hid (show ¬ entOk ⟨ek, ed, et, ea, es'⟩ = true from fun h => by have := (entOk_num h).2.2.2; rw [show numOk _ = false from hn3] at this; cases this)
        go_wp2_with (go_at_call 72; refine (rnum_any _ _).mono ?_; rintro e w' ⟨rfl, rfl⟩)
        go_ret
        exact CkPost.lim HMEM.out HNO.out rfl (HAL.out _)
      replace hn3 : numOk es' = true := by simpa using hn3
      have HOK := Lib.hid (entOk_of HK.out.1 HK.out.2 (fun j hj => by
        match j, hj with
        | 0, _ => exact hn0
        | 1, _ => exact hn1
        | 2, _ => exact hn2
        | 3, _ => exact hn3
        | j + 4, hj => omega))
      go_wp2_with (go_at_call 72; refine (rnum_any _ _).mono ?_; rintro e w' ⟨rfl, rfl⟩)
      go_roundw
      case rel => exact ⟨i + 1, by go_num, by omega, fun j h hj => by
        rcases Nat.lt_or_eq_of_le (Nat.lt_succ_iff.1 hj) with h' | h'
        · exact HPRE.out j h h'
        · subst h'; rw [HEN.out]; exact HOK.out, HAL.out _⟩
      case measure => simp [intOf]; omega
    · have hok : ∀ x ∈ es, entOk x = true := fun x hx => by
        obtain ⟨j, hj, rfl⟩ := List.getElem_of_mem hx
        exact hpre j hj (by omega)
      have HOK := Lib.hid hok
      have HB := Lib.hid hb
      have hl : decide (i < es.length) = false := decide_eq_false hlt
      clear hok hpre hb
      obtain ⟨w1, rfl⟩ : ∃ w1 : World, w1 = wr := ⟨_, rfl⟩
      go_wp2
      go_loopw [5] (fun s8 wr => ∃ i : Nat, s8 = .int .i64 (i + 1 : Nat) ∧ i ≤ es.length ∧ (∀ j (h : j + 1 < es.length), j < i → Go.Op.bytesLess (es[j]'(by omega)).K es[j + 1].K = true) ∧ ∃ d, wr = w1.drewN d) (fun s8 _ => es.length - (intOf s8).toNat)
      case atStart => exact ⟨0, rfl, Nat.zero_le _, fun j h h0 => absurd h0 (Nat.not_lt_zero _), 0, rfl⟩
      case round =>
        obtain ⟨j, rfl, hj, hpre, dd, rfl⟩ := hrel
        by_cases hlt2 : j + 1 < es.length
        · obtain ⟨b, o, rfl, hat⟩ := (HR.out.below HB.out (Nat.le_refl _)).at_ (by omega)
          have g1 := (hat (j + 1) hlt2).k
          have g2 := (hat j (by omega)).k
          obtain ⟨k1, hk1⟩ : ∃ k1, (es[j + 1]).k = k1 := ⟨_, rfl⟩
          obtain ⟨k2, hk2⟩ : ∃ k2, (es[j]'(by omega)).k = k2 := ⟨_, rfl⟩
          rw [hk1] at g1
          rw [hk2] at g2
          have hles : Go.Op.bytesLess (es[j]'(by omega)).K es[j + 1].K = Go.Op.bytesLess k2.data.toList k1.data.toList := by unfold EntV.K; rw [hk1, hk2]
          have q1 : IntKind.i64.wrap (((j + 1 : Nat) : Int) - 1) = (j : Int) := (IntWalk.i64_in _ (by omega)).trans (by omega)
          have q2 : IntKind.i64.wrap ((j : Int) + 1 - 1) = (j : Int) := (IntWalk.i64_in _ (by omega)).trans (by omega)
          have q3 : IntKind.i64.wrap (j : Int) = (j : Int) := IntWalk.i64_in _ (by omega)
          have i1 : (j : Int) < (es.length : Int) := by omega
          have i2 : (j : Int) + 1 < (es.length : Int) := by omega
          have HPRE := Lib.hid hpre
          have HLES := Lib.hid hles
          clear hk1 hk2 hat hles hpre
          cases hab : Go.Op.bytesLess k2.data.toList k1.data.toList with
          | true =>
            have tB : (!Go.Op.bytesLess k2.toList k1.toList) = false := by rw [ba_list k1, ba_list k2, hab]; rfl
            have HAB := Lib.hid (HLES.out.trans hab)
            clear hab
            go_wp2
            go_quiet (fail)
            go_wp2
            go_roundw
            case rel => exact ⟨j + 1, by go_num, by omega, fun j' h hj' => by
              rcases Nat.lt_or_eq_of_le (Nat.lt_succ_iff.1 hj') with h' | h'
              · exact HPRE.out j' h h'
              · subst h'; exact HAB.out, _, rfl⟩
            case measure => simp [intOf]; omega
          | false =>
            have tB : (!Go.Op.bytesLess k2.toList k1.toList) = true := by rw [ba_list k1, ba_list k2, hab]; rfl
            have HAB := Lib.hid (HLES.out.trans hab)
            have hnr : ¬ rising none es := fun h => by have := (rising_none es).1 h j hlt2; rw [HAB.out] at this; cases this
            have HNR := Lib.hid hnr
            clear hab hnr
            go_wp2
            go_quiet (fail)
            go_wp2
            go_ret
            exact CkPost.ord HOK.out HNR.out rfl (below_drewN (below_drewN HB.out _) _)
        · have hris : rising none es := (rising_none es).2 fun j' h => hpre j' h (by omega)
          have HRIS := Lib.hid hris
          have hl2 : decide (j + 1 < es.length) = false := decide_eq_false hlt2
          clear hris hpre
          go_wp2
          go_ret
          exact CkPost.ok HOK.out HRIS.out rfl (below_drewN HB.out _)
end Go.Proofs.YtfeldllcpeibcaaDoor
