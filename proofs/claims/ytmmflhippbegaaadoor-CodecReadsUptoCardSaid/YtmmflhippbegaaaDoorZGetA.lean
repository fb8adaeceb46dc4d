/- The document's readers: a byte, a uvarint, a varint, a number up to most, a word. -/
import Derived.Test.YtmmflhippbegaaaDoorZGetP
import Derived.Test.YtmmflhippbegaaaDoorZNum
import Derived.Test.YtmmflhippbegaaaDoorZRAll
import Derived.OwnWalk
namespace Go.Proofs.YtmmflhippbegaaaDoor
set_option linter.unusedVariables false
open Go.ChangeShapes Go.WideShapes Go.ChangeAt Go.RowKit

/-- What a reader of the document answers. -/
def DOut {α : Type} (w : World) (k : Nat) (zero : Value) (val : α → Value) (res : Except Nat (α × Nat)) (e : Ending) (w' : World) : Prop :=
  (∀ n, res = .error n → e = .returned (.tuple #[zero, .int .i64 k, .int .i64 n])) ∧
  (∀ x n, res = .ok (x, n) → e = .returned (.tuple #[val x, .int .i64 (k + n : Nat), .int .i64 0])) ∧ w = w'
theorem DOut.err {α : Type} {w : World} {k : Nat} {zero : Value} {val : α → Value} {res : Except Nat (α × Nat)} {e : Ending} {n : Nat} (hr : res = .error n) (he : e = .returned (.tuple #[zero, .int .i64 k, .int .i64 n])) : DOut w k zero val res e w :=
  ⟨fun m hm => (by rw [hr] at hm; injection hm with hm; subst hm; exact he), fun x m hm => (by rw [hr] at hm; cases hm), rfl⟩
theorem DOut.ok {α : Type} {w : World} {k : Nat} {zero : Value} {val : α → Value} {res : Except Nat (α × Nat)} {e : Ending} {x : α} {n : Nat} (hr : res = .ok (x, n)) (he : e = .returned (.tuple #[val x, .int .i64 (k + n : Nat), .int .i64 0])) : DOut w k zero val res e w :=
  ⟨fun m hm => (by rw [hr] at hm; cases hm), fun y m hm => (by rw [hr] at hm; injection hm with hm; injection hm with h3 h4; subst h3 h4; exact he), rfl⟩
theorem rd_bytes {w : World} {a : Option Addr} {n c : Nat} {l : List UInt8} (h : Rd w (.slice a n c) (bytesV l)) : n = l.length ∧ (0 < l.length → ∃ b o, a = some ⟨b, o, none⟩ ∧ ∀ (j : Nat) (hj : j < l.length), w.cell? ⟨b, o + j, none⟩ = some (.int .u8 (l[j].toNat : Nat))) := by
  obtain ⟨A, c', h, _, hg⟩ := h
  injection h with h1 h2 h3
  subst h1 h2 h3
  rw [bytesV_length] at hg ⊢
  refine ⟨rfl, fun h0 => ?_⟩
  obtain ⟨b, o, e, hg⟩ := hg h0
  exact ⟨b, o, e, fun j hj => hg j _ (bytesV_get l j hj)⟩

set_option maxRecDepth 100000 in
theorem rgb_any (w : World) (a : Option Addr) (n c : Nat) (bs : List UInt8) (hr : Rd w (.slice a n c) (bytesV bs)) (hl : bs.length ≤ 1000000000) (k : Nat) (hk : k ≤ bs.length) :
    Calls Tryd.prog 73 #[.slice a n c, .int .i64 k] w (DOut w k (.int .u8 0) (fun u : Nat => .int .u8 u) (getB (bs.drop k))) := by
  obtain ⟨rfl, hg⟩ := rd_bytes hr
  clear hr
  by_cases h : k < bs.length
  · obtain ⟨b, o, rfl, hg2⟩ := hg (by omega)
    have hc := hg2 k h
    have hres : getB (bs.drop k) = .ok (bs[k].toNat, 1) := by rw [List.drop_eq_getElem_cons h]; rfl
    obtain ⟨x, hx⟩ : ∃ x, bs[k].toNat = x := ⟨_, rfl⟩
    rw [hx] at hc hres
    have HR := Lib.hid hres
    clear hg hg2 hx hres
    go_enter Tryd.func73, Tryd.ntmps73
    go_wp2
    go_ret3
    exact DOut.ok HR.out (by go_num)
  · have hres : getB (bs.drop k) = .error 1 := by rw [List.drop_eq_nil_of_le (by omega)]; rfl
    have HR := Lib.hid hres
    clear hg hres
    go_enter Tryd.func73, Tryd.ntmps73
    go_wp2
    go_ret3
    exact DOut.err HR.out rfl

set_option maxRecDepth 100000 in
set_option maxHeartbeats 1000000 in
theorem rgu_any (w : World) (a : Option Addr) (n c : Nat) (bs : List UInt8) (hr : Rd w (.slice a n c) (bytesV bs)) (hl : bs.length ≤ 1000000000) (k : Nat) (hk : k ≤ bs.length) :
    Calls Tryd.prog 74 #[.slice a n c, .int .i64 k] w (DOut w k (.int .u64 0) (fun u : Nat => .int .u64 u) (getU (bs.drop k))) := by
  obtain ⟨rfl, hg⟩ := rd_bytes hr
  clear hr
  have HG := Lib.hid hg
  clear hg
  go_enter Tryd.func74, Tryd.ntmps74
  go_wp2
  go_loopw [7] (fun s wr => ∃ n : Nat, s = .int .i64 n ∧ Scan (bs.drop k) n ∧ w = wr) (fun s _ => 20 - (intOf s).toNat)
  case atStart => exact ⟨0, rfl, scan_zero _, rfl⟩
  case round =>
    obtain ⟨m, rfl, hs, rfl⟩ := hrel
    have h9 := hs.n9
    by_cases h : k + m < bs.length
    · obtain ⟨b, o, rfl, hg⟩ := HG.out (by omega)
      have hc := hg (k + m) h
      have hm : m < (bs.drop k).length := by rw [List.length_drop]; omega
      have hX : (bs.drop k)[m] = bs[k + m] := List.getElem_drop
      have hten := hs.ten hm
      have hnx := hs.next hm
      have hzr := hs.zero hm
      have hok := hs.ok hm
      rw [hX] at hten hnx hzr hok
      obtain ⟨x, hx⟩ : ∃ x, bs[k + m].toNat = x := ⟨_, rfl⟩
      have hx2 : x < 256 := by rw [← hx]; exact bs[k + m].toNat_lt
      rw [hx] at hc hten hnx hzr hok
      rw [show o + (k + m) = o + (k + m) from rfl] at hc
      have HT := Lib.hid hten
      have HN := Lib.hid hnx
      have HZ := Lib.hid hzr
      have HO := Lib.hid hok
      have q1 : (k : Int) + (m : Int) < (bs.length : Nat) := by omega
      clear hg hX hx hten hnx hzr hok hs
      go_upto_region 6 with fail
      go_cut [31] (fun s wx => w = wx ∧ s = .bool (decide (m = 9 ∧ 1 < x)))
      case first =>
        by_cases e1 : m = 9
        · by_cases e2 : 1 < x
          · have t1 : ((m : Int) + 1 == 10) = true := by simp; omega
            go_wp2
            all_goals go_meet
            exact ⟨rfl, congrArg Value.bool (decide_eq_decide.2 (by omega))⟩
          · have t1 : ((m : Int) + 1 == 10) = true := by simp; omega
            go_wp2
            all_goals go_meet
            exact ⟨rfl, congrArg Value.bool (decide_eq_decide.2 (by omega))⟩
        · have t1 : ((m : Int) + 1 == 10) = false := by simp; omega
          go_wp2
          all_goals go_meet
          exact ⟨rfl, congrArg Value.bool (decide_eq_false (fun h => by omega)).symm⟩
      case rest =>
        obtain ⟨rfl, rfl⟩ := hcut
        by_cases h1 : m = 9 ∧ 1 < x
        · rw [decide_eq_true h1]
          go_wp2
          go_ret3
          exact DOut.err (HT.out h1.1 h1.2) rfl
        · rw [decide_eq_false h1]
          by_cases h2 : 128 ≤ x
          · have hn := HN.out h2 h1
            have HN2 := Lib.hid hn
            have H1 := Lib.hid h1
            clear hn h1
            go_wp2
            go_roundw
            case rel => exact ⟨m + 1, by go_num, HN2.out, by first | rfl | trivial⟩
            case measure => simp [intOf]; omega
          · have H1 := Lib.hid h1
            clear h1
            go_upto_region 9 with fail
            go_cut [40] (fun s wx => w = wx ∧ s = .bool (decide (x = 0 ∧ 0 < m)))
            case first =>
              by_cases e1 : x = 0
              · by_cases e2 : 0 < m
                · have t1 : ((x : Int) == 0) = true := by simp; omega
                  go_wp2
                  all_goals go_meet
                  exact ⟨rfl, congrArg Value.bool (decide_eq_decide.2 (by omega))⟩
                · have t1 : ((x : Int) == 0) = true := by simp; omega
                  go_wp2
                  all_goals go_meet
                  exact ⟨rfl, congrArg Value.bool (decide_eq_decide.2 (by omega))⟩
              · have t1 : ((x : Int) == 0) = false := by simp; omega
                go_wp2
                all_goals go_meet
                exact ⟨rfl, congrArg Value.bool (decide_eq_false (fun h => by omega)).symm⟩
            case rest =>
              obtain ⟨rfl, rfl⟩ := hcut
              by_cases h3 : x = 0 ∧ 0 < m
              · rw [decide_eq_true h3]
                go_wp2
                go_ret3
                exact DOut.err (HZ.out h3.1 h3.2) rfl
              · rw [decide_eq_false h3]
                have hres := HO.out H1.out (by omega) h3
                have hV := (getU_ok hres).1
                have HR := Lib.hid hres
                have HV := Lib.hid hV
                clear hres hV h3
                have hb : k + (m + 1) ≤ bs.length := by omega
                go_wp2
                go_loopw [9, 10] (fun s9 s10 wr => ∃ j : Nat, j ≤ m + 1 ∧ s10 = .int .i64 ((j : Int) - 1) ∧ s9 = .int .u64 (hor (((bs.drop k).take (m + 1)).drop j) : Nat) ∧ w = wr) (fun _ s _ => (intOf s + 1).toNat)
                case atStart => exact ⟨m + 1, Nat.le_refl _, by go_num, by rw [take_drop_self]; rfl, rfl⟩
                case round =>
                  obtain ⟨j, hj, rfl, rfl, rfl⟩ := hrel
                  by_cases hj0 : j = 0
                  · subst hj0
                    go_wp2
                    go_ret3
                    refine DOut.ok HR.out ?_
                    rw [List.drop_zero]
                    go_num
                  · obtain ⟨i, rfl⟩ : ∃ i, j = i + 1 := ⟨j - 1, by omega⟩
                    obtain ⟨b', o', e', hg⟩ := HG.out (by omega)
                    injection e' with e'
                    injection e' with e1 e2
                    subst e1 e2
                    have hc2 := hg (k + i) (by omega)
                    have hst := hor_take_step (L := bs.drop k) (n := m + 1) (i := i) (by rw [List.length_drop]; omega) (by omega)
                    rw [List.getElem_drop] at hst
                    have hle := hor_drop_le ((bs.drop k).take (m + 1)) i
                    have hv2 := HV.out
                    obtain ⟨y, hy⟩ : ∃ y, bs[k + i].toNat = y := ⟨_, rfl⟩
                    have hy2 : y < 256 := by rw [← hy]; exact bs[k + i].toNat_lt
                    rw [hy] at hc2 hst
                    obtain ⟨V, hVV⟩ : ∃ V, hor (((bs.drop k).take (m + 1)).drop (i + 1)) = V := ⟨_, rfl⟩
                    rw [hVV] at hst ⊢
                    have q5 : 128 * (V : Int) + (y : Int) % 128 ≤ 18446744073709551615 := by omega
                    have q6 : (k : Int) + (i : Int) < (bs.length : Nat) := by omega
                    have HST := Lib.hid hst
                    clear hg hy hle hv2 hst hVV
                    rw [show (((i + 1 : Nat) : Int) - 1) = (i : Int) by omega]
                    go_wp2
                    go_roundw
                    case rel => exact ⟨i, by omega, by go_num, by rw [HST.out]; go_num, by first | rfl | trivial⟩
                    case measure => simp [intOf] <;> omega
    · have hres := hs.short (by rw [List.length_drop]; omega)
      have HR := Lib.hid hres
      clear hres hs
      go_wp2
      go_ret3
      exact DOut.err HR.out rfl

set_option maxRecDepth 100000 in
theorem rgv_any (w : World) (a : Option Addr) (n c : Nat) (bs : List UInt8) (hr : Rd w (.slice a n c) (bytesV bs)) (hl : bs.length ≤ 1000000000) (k : Nat) (hk : k ≤ bs.length) :
    Calls Tryd.prog 75 #[.slice a n c, .int .i64 k] w (DOut w k (.int .i64 0) (fun u : Nat => .int .i64 (zagI u)) (getU (bs.drop k))) := by
  have C1 := rgu_any w a n c bs hr hl k hk
  clear hr
  cases hres : getU (bs.drop k) with
  | error q =>
    have hq := getU_err hres
    have t1 : ((q : Int) != 0) = true := by simp; omega
    go_enter Tryd.func75, Tryd.ntmps75
    go_wp2_with fail
    refine C1.mono ?_
    rintro e w' ⟨h1, _, rfl⟩
    obtain rfl := h1 q hres
    clear h1 C1
    have HR := Lib.hid hres
    clear hres hq
    go_wp2
    go_ret3
    exact DOut.err rfl rfl
  | ok y =>
    obtain ⟨u, q⟩ := y
    have hu := (getU_ok hres).1
    have C2 := rzag_any u w (by omega) (by omega)
    go_enter Tryd.func75, Tryd.ntmps75
    go_wp2_with fail
    refine C1.mono ?_
    rintro e w' ⟨_, h2, rfl⟩
    obtain rfl := h2 u q hres
    clear h2 C1
    have HR := Lib.hid hres
    clear hres
    go_wp2_with fail
    refine C2.mono ?_
    rintro e w' ⟨rfl, rfl⟩
    go_wp2
    go_ret3
    exact DOut.ok rfl rfl

set_option maxRecDepth 100000 in
theorem rgt_any (w : World) (a : Option Addr) (n c : Nat) (bs : List UInt8) (hr : Rd w (.slice a n c) (bytesV bs)) (hl : bs.length ≤ 1000000000) (k : Nat) (hk : k ≤ bs.length) (most : Int) (hm0 : -9223372036854775808 ≤ most) (hm1 : most ≤ 9223372036854775807) :
    Calls Tryd.prog 76 #[.slice a n c, .int .i64 k, .int .i64 most] w (DOut w k (.int .i64 0) (fun u : Nat => .int .i64 u) (getUpto most (bs.drop k))) := by
  have C1 := rgu_any w a n c bs hr hl k hk
  clear hr
  cases hres : getU (bs.drop k) with
  | error q =>
    have hq := getU_err hres
    have hr2 : getUpto most (bs.drop k) = .error q := by unfold getUpto; rw [hres]
    have t1 : ((q : Int) != 0) = true := by simp; omega
    have HR := Lib.hid hr2
    clear hr2 hq
    go_enter Tryd.func76, Tryd.ntmps76
    go_wp2_with fail
    refine C1.mono ?_
    rintro e w' ⟨h1, _, rfl⟩
    obtain rfl := h1 q hres
    clear h1 C1 hres
    go_wp2
    go_ret3
    exact DOut.err HR.out rfl
  | ok y =>
    obtain ⟨u, q⟩ := y
    have hu := (getU_ok hres).1
    by_cases hlt : most < u
    · have hr2 : getUpto most (bs.drop k) = .error 3 := by unfold getUpto; rw [hres]; simp only; rw [if_pos hlt]
      have HR := Lib.hid hr2
      clear hr2
      go_enter Tryd.func76, Tryd.ntmps76
      go_wp2_with fail
      refine C1.mono ?_
      rintro e w' ⟨_, h2, rfl⟩
      obtain rfl := h2 u q hres
      clear h2 C1 hres
      by_cases hneg : most < 0
      · go_wp2
        go_ret3
        exact DOut.err HR.out rfl
      · obtain ⟨mm, rfl⟩ : ∃ mm : Nat, most = mm := ⟨most.toNat, by omega⟩
        have hlt' : mm < u := by omega
        go_wp2
        go_ret3
        exact DOut.err HR.out rfl
    · have hr2 : getUpto most (bs.drop k) = .ok (u, q) := by unfold getUpto; rw [hres]; simp only; rw [if_neg hlt]
      obtain ⟨mm, rfl⟩ : ∃ mm : Nat, most = mm := ⟨most.toNat, by omega⟩
      have hlt' : ¬ mm < u := by omega
      have HR := Lib.hid hr2
      clear hr2
      go_enter Tryd.func76, Tryd.ntmps76
      go_wp2_with fail
      refine C1.mono ?_
      rintro e w' ⟨_, h2, rfl⟩
      obtain rfl := h2 u q hres
      clear h2 C1 hres
      go_wp2
      go_ret3
      exact DOut.ok HR.out rfl

set_option maxRecDepth 100000 in
set_option maxHeartbeats 1000000 in
theorem rgw_any (w : World) (a : Option Addr) (n c : Nat) (bs : List UInt8) (hr : Rd w (.slice a n c) (bytesV bs)) (hl : bs.length ≤ 1000000000) (k : Nat) (hk : k ≤ bs.length) (m : Nat) (hm : m ≤ 8) :
    Calls Tryd.prog 77 #[.slice a n c, .int .i64 k, .int .i64 m] w (DOut w k (.int .u64 0) (fun u : Nat => .int .u64 u) (getW m (bs.drop k))) := by
  obtain ⟨rfl, hg⟩ := rd_bytes hr
  clear hr
  by_cases h : (bs.drop k).length < m
  · have hres : getW m (bs.drop k) = .error 1 := by unfold getW; rw [if_pos h]
    rw [List.length_drop] at h
    have t1 : (bs.length : Int) - (k : Int) < (m : Int) := by omega
    have HR := Lib.hid hres
    clear hg hres
    go_enter Tryd.func77, Tryd.ntmps77
    go_wp2
    go_ret3
    exact DOut.err HR.out rfl
  · have hres : getW m (bs.drop k) = .ok (leN ((bs.drop k).take m), m) := by unfold getW; rw [if_neg h]
    have hlt := leN_lt ((bs.drop k).take m)
    have h8 : (256 : Nat) ^ ((bs.drop k).take m).length ≤ 256 ^ 8 := Nat.pow_le_pow_right (by decide) (by rw [List.length_take]; omega)
    have hV : leN ((bs.drop k).take m) < 2 ^ 64 := Nat.lt_of_lt_of_le hlt (Nat.le_trans h8 (by decide))
    rw [List.length_drop] at h
    have t1 : ¬ ((bs.length : Int) - (k : Int) < (m : Int)) := by omega
    have hb : k + m ≤ bs.length := by omega
    have HR := Lib.hid hres
    have HV := Lib.hid hV
    have HG := Lib.hid hg
    clear hg hres hlt h8 hV
    go_enter Tryd.func77, Tryd.ntmps77
    go_wp2
    go_loopw [9, 10] (fun s9 s10 wr => ∃ j : Nat, j ≤ m ∧ s10 = .int .i64 ((j : Int) - 1) ∧ s9 = .int .u64 (leN (((bs.drop k).take m).drop j) : Nat) ∧ w = wr) (fun _ s _ => (intOf s + 1).toNat)
    case atStart => exact ⟨m, Nat.le_refl _, by go_num, by rw [take_drop_self]; rfl, rfl⟩
    case round =>
      obtain ⟨j, hj, rfl, rfl, rfl⟩ := hrel
      by_cases hj0 : j = 0
      · subst hj0
        go_wp2
        go_ret3
        refine DOut.ok HR.out ?_
        rw [List.drop_zero]
        go_num
      · obtain ⟨i, rfl⟩ : ∃ i, j = i + 1 := ⟨j - 1, by omega⟩
        obtain ⟨b, o, rfl, hg⟩ := HG.out (by omega)
        have hc2 := hg (k + i) (by omega)
        have hst := leN_take_step (L := bs.drop k) (n := m) (i := i) (by rw [List.length_drop]; omega) (by omega)
        rw [List.getElem_drop] at hst
        have hle := leN_drop_le ((bs.drop k).take m) i
        have hv2 := HV.out
        obtain ⟨y, hy⟩ : ∃ y, bs[k + i].toNat = y := ⟨_, rfl⟩
        have hy2 : y < 256 := by rw [← hy]; exact bs[k + i].toNat_lt
        rw [hy] at hc2 hst
        obtain ⟨V, hVV⟩ : ∃ V, leN (((bs.drop k).take m).drop (i + 1)) = V := ⟨_, rfl⟩
        rw [hVV] at hst ⊢
        have q5 : 256 * (V : Int) + (y : Int) ≤ 18446744073709551615 := by omega
        have q6 : (k : Int) + (i : Int) < (bs.length : Nat) := by omega
        have HST := Lib.hid hst
        clear hg hy hle hv2 hst hVV
        rw [show (((i + 1 : Nat) : Int) - 1) = (i : Int) by omega]
        go_wp2
        go_roundw
        case rel => exact ⟨i, by omega, by go_num, by rw [HST.out]; go_num, by first | rfl | trivial⟩
        case measure => simp [intOf] <;> omega
end Go.Proofs.YtmmflhippbegaaaDoor
