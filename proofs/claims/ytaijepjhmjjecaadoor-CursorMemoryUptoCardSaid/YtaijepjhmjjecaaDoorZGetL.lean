/- The document's readers of lists: bytes, a text, a rising list, a packed list. -/
import Derived.Test.YtaijepjhmjjecaaDoorZG22
import Derived.Test.YtaijepjhmjjecaaDoorZRPack
import Derived.Test.YtaijepjhmjjecaaDoorZG8
namespace Go.Proofs.YtaijepjhmjjecaaDoor
set_option linter.unusedVariables false
open Go.ChangeShapes Go.WideShapes Go.ChangeAt Go.RowKit

/-- What a reader of lists of the document answers. -/
def DLs {α : Type} (t : TypeId) (w : World) (k : Nat) (f : List α → List Value) (res : Except Nat (List α × Nat)) (e : Ending) (w' : World) : Prop :=
  ∃ v, Below w.heap.size w w' ∧ (∀ n, res = .error n → e = .returned (.tuple #[v, .int .i64 k, .int .i64 n]) ∧ Own w' w.heap.size t v []) ∧
  (∀ x n, res = .ok (x, n) → e = .returned (.tuple #[v, .int .i64 (k + n : Nat), .int .i64 0]) ∧ Own w' w.heap.size t v (f x))
theorem DLs.err {α : Type} {t : TypeId} {w : World} {k : Nat} {f : List α → List Value} {res : Except Nat (List α × Nat)} {e : Ending} {w' : World} {n : Nat} {v : Value} (hr : res = .error n) (hb : Below w.heap.size w w') (he : e = .returned (.tuple #[v, .int .i64 k, .int .i64 n])) (hv : Own w' w.heap.size t v []) : DLs t w k f res e w' :=
  ⟨v, hb, fun m hm => (by rw [hr] at hm; injection hm with hm; subst hm; exact ⟨he, hv⟩), fun x m hm => (by rw [hr] at hm; cases hm)⟩
theorem DLs.ok {α : Type} {t : TypeId} {w : World} {k : Nat} {f : List α → List Value} {res : Except Nat (List α × Nat)} {e : Ending} {w' : World} {x : List α} {n : Nat} {v : Value} (hr : res = .ok (x, n)) (hb : Below w.heap.size w w') (he : e = .returned (.tuple #[v, .int .i64 (k + n : Nat), .int .i64 0])) (hv : Own w' w.heap.size t v (f x)) : DLs t w k f res e w' :=
  ⟨v, hb, fun m hm => (by rw [hr] at hm; cases hm), fun y m hm => (by rw [hr] at hm; injection hm with hm; injection hm with h3 h4; subst h3 h4; exact ⟨he, hv⟩)⟩
theorem rd_empty (w : World) (t : TypeId) : Rd (w.alloc (.cells #[] t)) (.slice (some ⟨w.heap.size, 0, none⟩) 0 0) [] := (own_empty w w.heap.size t (Nat.le_refl _)).rd
theorem below_al (w : World) (o : Obj) : Below w.heap.size w (w.alloc o) := (Below.refl _ w).alloc (Nat.le_refl _) o
theorem own_mid {w : World} {base : Nat} {av : Option Addr} {cv : Nat} {bs : List UInt8} (h : Own w base 5 (.slice av bs.length cv) (bytesV bs)) (K S : Nat) (hK : K + S ≤ bs.length) :
    (K < cv → ∃ g, av = some ⟨g, 0, none⟩ ∧ Rd w (.slice (some ⟨g, K, none⟩) S (cv - K)) (bytesV ((bs.drop K).take S))) ∧ (K = cv → Rd w (.slice av S 0) (bytesV ((bs.drop K).take S)) ∧ S = 0) := by
  have hcs : ((bs.drop K).take S).length = S := by rw [List.length_take, List.length_drop]; omega
  have hcap := own_cap h
  constructor
  · intro hk
    obtain ⟨g, rfl⟩ : ∃ g, av = some ⟨g, 0, none⟩ := by
      rcases h.shape with ⟨e, _⟩ | ⟨g, c, e, _⟩
      · injection e with _ _ e; omega
      · injection e with e _ _; exact ⟨g, e⟩
    refine ⟨g, rfl, _, cv - K, by rw [bytesV_length, hcs], by rw [bytesV_length, hcs]; omega, fun _ => ⟨g, K, rfl, fun j x hx => ?_⟩⟩
    have hjn : j < S := by have := (List.getElem?_eq_some_iff.1 hx).1; rw [bytesV_length, hcs] at this; exact this
    have e : (bytesV bs)[K + j]? = some x := by
      rw [← hx]; unfold bytesV
      rw [List.getElem?_map, List.getElem?_map, List.getElem?_take, if_pos hjn, List.getElem?_drop]
    exact h.get e
  · intro hk
    have hs0 : S = 0 := by omega
    exact ⟨⟨_, 0, by rw [bytesV_length, hcs], by rw [bytesV_length, hcs]; omega, fun h0 => by rw [bytesV_length, hcs] at h0; omega⟩, hs0⟩


theorem upto_err {most : Int} {L : List UInt8} {q : Nat} (h : getUpto most L = .error q) : q ≠ 0 := by
  unfold getUpto at h
  split at h
  · next e => injection h with h; have := getU_err e; omega
  · split at h
    · injection h with h; omega
    · cases h

set_option maxRecDepth 100000 in
set_option maxHeartbeats 4000000 in
theorem rgp_any (w : World) (a : Option Addr) (nn cc : Nat) (bs : List UInt8) (hr : Rd w (.slice a nn cc) (bytesV bs)) (hl : bs.length ≤ 100000000) (k : Nat) (hk : k ≤ bs.length) (most : Int) (hm0 : -9223372036854775808 ≤ most) (hm1 : most ≤ 9223372036854775807) :
    Calls Tryd.prog 101 #[.slice a nn cc, .int .i64 k, .int .i64 most] w (DLs 3 w k intL (toI (getPk most (bs.drop k)))) := by
  have C1 := rgt_any w a nn cc bs hr (by omega) k hk most hm0 hm1
  obtain ⟨rfl, hg⟩ := rd_bytes hr
  cases hres : getUpto most (bs.drop k) with
  | error q =>
    have hup : toI (getPk most (bs.drop k)) = .error q := by unfold getPk; rw [hres]; rfl
    have hq := upto_err hres
    have t1 : ((q : Int) != 0) = true := by simp; omega
    have HR := Lib.hid hup
    clear hup hq hr hg
    go_enter Tryd.func101, Tryd.ntmps101
    go_wp2_with fail
    refine C1.mono ?_
    rintro e w' ⟨h1, _, rfl⟩
    obtain rfl := h1 q hres
    clear h1 C1 hres
    go_wp2
    go_ret3
    exact DLs.err HR.out (below_al _ _) rfl (own_empty _ _ _ (by first | exact Nat.le_refl _ | exact hsz))
  | ok y =>
    obtain ⟨n, q⟩ := y
    obtain ⟨hgu, hum⟩ := getUpto_len hres
    have hlen := (getU_len hgu).1
    rw [List.length_drop] at hlen
    obtain ⟨K, hK⟩ : ∃ K, k + q = K := ⟨_, rfl⟩
    have hKl : K ≤ bs.length := by omega
    by_cases hn0 : n = 0
    · have hup : toI (getPk most (bs.drop k)) = .ok ([], q) := by unfold getPk; rw [hres]; simp only [if_pos hn0]; rfl
      have HR := Lib.hid hup
      subst hn0
      have HK := Lib.hid hK
      clear hup hr hg hgu hlen
      go_enter Tryd.func101, Tryd.ntmps101
      go_wp2_with fail
      refine C1.mono ?_
      rintro e w' ⟨_, h2, rfl⟩
      obtain rfl := h2 0 q hres
      clear h2 C1 hres
      rw [hK]
      clear hK
      go_wp2
      go_ret3
      exact DLs.ok HR.out (below_al _ _) (by rw [HK.out]; rfl) (own_empty _ _ _ (by first | exact Nat.le_refl _ | exact hsz))
    have t0 : ((n : Int) == 0) = false := by simp; omega
    have hpk := pk_back hres hn0
    rw [List.drop_drop, hK] at hpk
    by_cases hsh : bs.length ≤ K
    · have hup : toI (getPk most (bs.drop k)) = .error 1 := by rw [hpk, List.drop_eq_nil_of_le hsh]; rfl
      have HR := Lib.hid hup
      clear hup hr hg hgu hlen hpk hn0
      go_enter Tryd.func101, Tryd.ntmps101
      go_wp2_with fail
      refine C1.mono ?_
      rintro e w' ⟨_, h2, rfl⟩
      obtain rfl := h2 n q hres
      clear h2 C1 hres
      rw [hK]
      clear hK
      go_wp2
      go_ret3
      exact DLs.err HR.out (below_al _ _) rfl (own_empty _ _ _ (by first | exact Nat.le_refl _ | exact hsz))
    have hlt : K < bs.length := by omega
    obtain ⟨b, o, rfl, hgg⟩ := hg (by omega)
    have hcK := hgg K hlt
    have hdr : bs.drop K = bs[K] :: bs.drop (K + 1) := List.drop_eq_getElem_cons hlt
    rw [hdr, getPB] at hpk
    obtain ⟨m, hm⟩ : ∃ m, bs[K].toNat = m := ⟨_, rfl⟩
    have hm256 : m < 256 := by rw [← hm]; exact bs[K].toNat_lt
    rw [hm] at hcK hpk
    obtain ⟨K1, hK1⟩ : ∃ K1, K + 1 = K1 := ⟨_, rfl⟩
    rw [hK1] at hpk
    have HGG := Lib.hid hgg
    have HK := Lib.hid hK
    have HK1 := Lib.hid hK1
    have HRD := Lib.hid hr
    clear hgg hg hdr hgu hlen hn0 hm hr
    by_cases hlim : 63 < m ∨ (m = 0 ∧ 65536 < n)
    · have hup : toI (getPk most (bs.drop k)) = .error 3 := by rw [hpk, if_pos hlim]; rfl
      have HR := Lib.hid hup
      clear hup hpk hK1
      go_enter Tryd.func101, Tryd.ntmps101
      go_wp2_with fail
      refine C1.mono ?_
      rintro e w' ⟨_, h2, rfl⟩
      obtain rfl := h2 n q hres
      clear h2 C1 hres
      rw [hK]
      clear hK
      by_cases h63 : 63 < m
      · go_wp2
        go_ret3
        exact DLs.err HR.out (below_al _ _) rfl (own_empty _ _ _ (by first | exact Nat.le_refl _ | exact hsz))
      · have t1 : ((m : Int) == 0) = true := by simp; omega
        have h65 : 65536 < n := by omega
        clear hlim
        go_wp2
        go_ret3
        exact DLs.err HR.out (below_al _ _) rfl (own_empty _ _ _ (by first | exact Nat.le_refl _ | exact hsz))
    rw [if_neg hlim] at hpk
    have h63 : m ≤ 63 := by omega
    rcases Nat.eq_zero_or_pos m with hz | hpos
    · have hn65 : n ≤ 65536 := by omega
      have hup : toI (getPk most (bs.drop k)) = .ok (natI (unpack 0 n 0), q + 1) := by
        rw [hpk, hz]
        have e0 : leN ((bs.drop K1).take ((n * 0 + 7) / 8)) = 0 := by rw [Nat.mul_zero, show (0 + 7) / 8 = 0 by decide, List.take_zero]; rfl
        have h0 := widL_le (l := unpack 0 n 0) (k := 0) (fun x hx => (by have h1 := unpack_lt 0 n 0 x hx; have h2 : x = 0 := (by omega); rw [h2]; decide))
        have hc : widL (unpack 0 n 0) = 0 ∧ 0 / 2 ^ (n * 0) = 0 := ⟨by omega, by simp⟩
        rw [if_neg (by omega), e0, if_pos hc]
        simp [toI]
      subst hz
      have hmk := fun (w : World) => make_row elInts rfl n (by omega) (n : Int) rfl w
      have hown0 := own_lit w w.heap.size 3 (zerI n) (Nat.le_refl _) (by simp [zerI, maxLen]; omega)
      rw [show (zerI n).length = n by simp [zerI], ← madeZerI] at hown0
      have h65 : ¬ 65536 < n := by omega
      have hend : k + (q + 1) = K + 1 := by omega
      have HR := Lib.hid hup
      have HO := Lib.hid hown0
      have HE := Lib.hid hend
      clear hup hpk hlim hown0 hK1 hend
      go_enter Tryd.func101, Tryd.ntmps101
      go_wp2_with fail
      refine C1.mono ?_
      rintro e w' ⟨_, h2, rfl⟩
      obtain rfl := h2 n q hres
      clear h2 C1 hres
      rw [hK]
      clear hK
      go_wp2
      go_ret3
      refine DLs.ok HR.out (below_al _ _) (by rw [HE.out, Int.natCast_add]; rfl) ?_
      rw [zerI_eq]; exact HO.out
    obtain ⟨D, hD⟩ : ∃ D, bs.length = K1 + D := ⟨bs.length - K1, by omega⟩
    have hlenD : (bs.drop K1).length = D := by rw [List.length_drop]; omega
    rw [hlenD] at hpk
    have qD : (bs.length : Int) - ((K : Int) + 1) = (D : Int) := by omega
    have qd : 8 * (D : Int) / (m : Int) = ((D * 8 / m : Nat) : Int) := by rw [Nat.mul_comm D 8]; simp
    have tm : ((m : Int) == 0) = false := by simp; omega
    by_cases hfit : D * 8 / m < n
    · have hup : toI (getPk most (bs.drop k)) = .error 1 := by rw [hpk, if_pos ⟨hpos, hfit⟩]; rfl
      obtain ⟨Q, hQ⟩ : ∃ Q, D * 8 / m = Q := ⟨_, rfl⟩
      rw [hQ] at qd hfit
      have HR := Lib.hid hup
      clear hup hpk hlim hK1 hD hlenD hQ
      go_enter Tryd.func101, Tryd.ntmps101
      go_wp2_with fail
      refine C1.mono ?_
      rintro e w' ⟨_, h2, rfl⟩
      obtain rfl := h2 n q hres
      clear h2 C1 hres
      rw [hK]
      clear hK
      go_wp2
      go_ret3
      exact DLs.err HR.out (below_al _ _) rfl (own_empty _ _ _ (by first | exact Nat.le_refl _ | exact hsz))
    rw [if_neg (fun h => hfit h.2)] at hpk
    have hsz := packed_size hpos hfit
    obtain ⟨S, hS⟩ : ∃ S, (n * m + 7) / 8 = S := ⟨_, rfl⟩
    rw [hS] at hsz hpk
    obtain ⟨N, hN⟩ : ∃ N, leN ((bs.drop K1).take S) = N := ⟨_, rfl⟩
    rw [hN] at hpk
    have hNlt : N < 256 ^ S := by
      have h1 := leN_lt ((bs.drop K1).take S)
      rw [hN, List.length_take, hlenD, Nat.min_eq_left hsz] at h1; exact h1
    have hup : toI (getPk most (bs.drop k)) = if widL (unpack m n N) = m ∧ N / 2 ^ (n * m) = 0 then .ok (natI (unpack m n N), q + (1 + S)) else .error 4 := by rw [hpk]; exact if_toI _ _ _
    obtain ⟨Q, hQ⟩ : ∃ Q, D * 8 / m = Q := ⟨_, rfl⟩
    rw [hQ] at qd hfit
    obtain ⟨T, hT⟩ : ∃ T, n * m = T := ⟨_, rfl⟩
    have hTI : (n : Int) * (m : Int) = (T : Int) := by rw [← hT]; simp
    rw [hT] at hS hup
    have hnQ : n ≤ Q := by omega
    have hn9 : n ≤ 1000000000 := by
      have : Q ≤ 8 * D := by rw [← hQ, Nat.mul_comm 8]; exact Nat.div_le_self _ _
      omega
    have hQ8 : Q ≤ 8 * D := by rw [← hQ, Nat.mul_comm 8]; exact Nat.div_le_self _ _
    have hT8 : T ≤ 8 * D := by
      rw [← hT, Nat.mul_comm 8]
      exact (Nat.le_div_iff_mul_le hpos).1 (by omega)
    have hST : T ≤ 8 * S ∧ 8 * S < T + 8 := by omega
    have qS : ((T : Int) + 7) / 8 = (S : Int) := by omega
    have hKS : K1 + S ≤ bs.length := by omega
    have hend : k + (q + (1 + S)) = K1 + S := by omega
    have hm2 : (2 : Nat) ^ m ≤ 2 ^ 63 := Nat.pow_le_pow_right (by decide) h63
    have ho := own_empty w w.heap.size 3 (Nat.le_refl _)
    have hb := below_al w (.cells #[] 3)
    have HUP := Lib.hid hup
    have HE := Lib.hid hend
    have HT := Lib.hid hT
    have HN := Lib.hid hN
    have HNL := Lib.hid hNlt
    have HM2 := Lib.hid hm2
    have HO := Lib.hid ho
    have HB := Lib.hid hb
    have HST := Lib.hid hST
    have qK1 : (K : Int) + 1 = (K1 : Int) := by omega
    rw [qK1] at qD
    clear hK1 hup hpk hlim hD hlenD hQ hS hQ8 hsz hend hT hN hNlt hm2 ho hb hT8
    go_enter Tryd.func101, Tryd.ntmps101
    go_wp2_with fail
    refine C1.mono ?_
    rintro e w' ⟨_, h2, rfl⟩
    obtain rfl := h2 n q hres
    clear h2 C1 hres
    rw [hK]
    clear hK
    go_wp2
    try simp only [qd]
    clear qd
    go_loopw [14, 15] (fun s14 s15 wr => ∃ (i : Nat) (av : Option Addr) (cv : Nat), s15 = .int .i64 i ∧ i ≤ n ∧ s14 = .slice av i cv ∧ Own wr w.heap.size 3 (.slice av i cv) (intL (natI (unpack m i N))) ∧ Below w.heap.size w wr) (fun _ s _ => n - (intOf s).toNat)
    case atStart => exact ⟨0, _, _, rfl, Nat.zero_le _, rfl, HO.out, HB.out⟩
    case round =>
      clear HO HB
      obtain ⟨i, av, cv, rfl, hi, rfl, ho, hb⟩ := hrel
      have hsz := hb.size
      by_cases hlt : i < n
      · have hC : i * m + m ≤ T := by rw [← HT.out, ← Nat.succ_mul]; exact Nat.mul_le_mul_right _ hlt
        obtain ⟨I, hI⟩ : ∃ I, i * m = I := ⟨_, rfl⟩
        have hII : (i : Int) * (m : Int) = (I : Int) := by rw [← hI]; simp
        rw [hI] at hC
        have hmi : m * i = I := by rw [Nat.mul_comm]; exact hI
        have hun := unpack_succ m i N
        rw [hmi] at hun
        obtain ⟨X, hX⟩ : ∃ X, N / 2 ^ I = X := ⟨_, rfl⟩
        rw [hX] at hun
        have hXm : X % 2 ^ m < 2 ^ 63 := Nat.lt_of_lt_of_le (Nat.mod_lt _ (Nat.two_pow_pos m)) HM2.out
        have hbit : ∀ kk, kk < m → ∀ j8 r, I + kk = 8 * j8 + r → r < 8 → ∃ h : K1 + j8 < bs.length, X / 2 ^ kk % 2 = bs[K1 + j8].toNat / 2 ^ r % 2 := by
          intro kk hkk j8 r he hr8
          have h8 := HST.out
          have h1 := bit_of (bs := bs) (K1 := K1) (S := S) (p := I + kk) (by omega) hKS
          rw [HN.out] at h1
          have e1 : (I + kk) / 8 = j8 := by omega
          have e2 : (I + kk) % 8 = r := by omega
          refine ⟨by omega, ?_⟩
          simp only [e1, e2] at h1
          rw [← h1, ← hX, Nat.div_div_eq_div_mul, ← Nat.pow_add]
        obtain ⟨b', o', e', hgw⟩ := (rd_bytes (HRD.out.below hb (Nat.le_refl _))).2 (by omega)
        injection e' with e'
        injection e' with e1 e2
        subst e1 e2
        have HGW := Lib.hid hgw
        clear hgw
        have HI := Lib.hid hI
        have HUN := Lib.hid hun
        have HXM := Lib.hid hXm
        have HBIT := Lib.hid hbit
        have HOO := Lib.hid ho
        have HB := Lib.hid hb
        clear hI hmi hun hXm hbit ho hb hX
        go_wp2
        go_loopw [16, 17] (fun s16 s17 wx => ∃ j : Nat, j ≤ m ∧ s17 = .int .i64 ((j : Int) - 1) ∧ s16 = .int .i64 (X % 2 ^ m / 2 ^ j : Nat) ∧ wr = wx) (fun _ s _ => (intOf s + 1).toNat)
        case atStart => exact ⟨m, Nat.le_refl _, by go_num, by rw [bits_top]; rfl, rfl⟩
        case round =>
          obtain ⟨j, hj, rfl, rfl, rfl⟩ := hrel
          by_cases hj0 : j = 0
          · subst hj0
            rw [Nat.pow_zero, Nat.div_one]
            obtain ⟨Z, hZ⟩ : ∃ Z, X % 2 ^ m = Z := ⟨_, rfl⟩
            rw [hZ]
            have hoo := HOO.out
            have hL : (intL (natI (unpack m i N))).length < 1000000000000 := by rw [intL_length]; simp [natI, unpack_length]; omega
            have HZ := Lib.hid hZ
            clear hZ
            go_wp2_with (at_builtin; with_reducible refine ap1' elInts rfl hoo hL hsz rfl _ _ rfl rfl rfl ?_)
            intro v2 w2 g1 g2 g3 g4
            have e2 := ((Eff.refl (fun k => (Value.slice av i cv).ownBlock = some k) wr).grown g4 (fun i hi _ => hi)).below (B := w.heap.size) (fun i hi => (hoo.lt i hi).1) hsz
            obtain ⟨a2, c2, rfl⟩ := own_slice g1
            have hun := HUN.out
            rw [HZ.out] at hun
            have hg1 := own_to g1 (show _ = intL (natI (unpack m (i + 1) N)) by rw [hun]; simp [intL, natI])
            have hle : (intL (natI (unpack m i N)) ++ [Value.int .i64 (Z : Int)]).length = i + 1 := by simp [intL, natI, unpack_length]
            rw [hle] at hg1 ⊢
            have G1 := Lib.hid hg1
            have HB2 := Lib.hid (HB.out.trans e2)
            clear g1 g2 g3 g4 e2 hoo hL HOO HB hun hle hg1
            go_wp2
            go_roundw
            case rel => exact ⟨i + 1, a2, c2, by go_num, by omega, rfl, G1.out, HB2.out⟩
            case measure => simp [intOf]; omega
          · obtain ⟨kk, rfl⟩ : ∃ kk, j = kk + 1 := ⟨j - 1, by omega⟩
            obtain ⟨j8, r, hr8, hjr⟩ : ∃ j8 r : Nat, r < 8 ∧ I + kk = 8 * j8 + r := ⟨(I + kk) / 8, (I + kk) % 8, by omega, by omega⟩
            obtain ⟨hin, hbt⟩ := HBIT.out kk (by omega) j8 r hjr hr8
            have hcb := HGW.out (K1 + j8) hin
            have hst := bits_step X m kk (by omega)
            have hlX : X % 2 ^ m / 2 ^ kk < 2 ^ 63 := Nat.lt_of_le_of_lt (Nat.div_le_self _ _) HXM.out
            obtain ⟨y, hy⟩ : ∃ y, bs[K1 + j8].toNat = y := ⟨_, rfl⟩
            have hy256 : y < 256 := by rw [← hy]; exact bs[K1 + j8].toNat_lt
            rw [hy] at hcb hbt
            obtain ⟨β, hβ⟩ : ∃ β, y / 2 ^ r % 2 = β := ⟨_, rfl⟩
            have hβ2 : β < 2 := by rw [← hβ]; exact Nat.mod_lt _ (by decide)
            have hβe : (y : Int) / 2 ^ r % 2 = (β : Int) := by rw [← hβ]; simp
            have hq0 : (0 : Int) ≤ (y : Int) / 2 ^ r := Int.ediv_nonneg (by omega) (Int.pow_nonneg (by decide))
            rw [hbt, hβ] at hst
            obtain ⟨V, hV⟩ : ∃ V, X % 2 ^ m / 2 ^ (kk + 1) = V := ⟨_, rfl⟩
            rw [hV] at hst ⊢
            have q1 : ((I : Int) + (kk : Int)) % 8 = r := by omega
            have q2 : ((I : Int) + (kk : Int)) / 8 = j8 := by omega
            have q3 : (K1 : Int) + (j8 : Int) < (bs.length : Nat) := by omega
            have q4 : 2 * (V : Int) + (β : Int) ≤ 9223372036854775807 := by omega
            have q5 : (0 : Int) ≤ (r : Int) := by omega
            have q6 : (r : Int) ≤ 64 := by omega
            have HS := Lib.hid hst
            clear hbt hst hlX hy hβ hV hjr
            rw [show (((kk + 1 : Nat) : Int) - 1) = (kk : Int) by omega]
            go_wp2
            go_roundw
            case rel => exact ⟨kk, by omega, by go_num, by rw [HS.out]; go_num, by first | rfl | trivial⟩
            case measure => simp [intOf] <;> omega
      · obtain rfl : i = n := by omega
        have C2 := rwid_any wr av i cv (unpack m i N) ho.rd (by rw [unpack_length]; omega) (unpack_fits m i N h63)
        obtain ⟨b', o', e', hgw⟩ := (rd_bytes (HRD.out.below hb (Nat.le_refl _))).2 (by omega)
        injection e' with e'
        injection e' with e1 e2
        subst e1 e2
        have HGW := Lib.hid hgw
        have HOO := Lib.hid ho
        have HB := Lib.hid hb
        clear hgw ho hb
        go_wp2
        go_loopw [20] (fun s20 wx => ∃ p : Nat, s20 = .int .i64 p ∧ p ≤ 8 * S ∧ Clr N T p ∧ wr = wx) (fun s _ => 8 * S - (intOf s).toNat)
        case atStart => exact ⟨T, rfl, HST.out.1, clr_zero _ _, rfl⟩
        case round =>
          obtain ⟨p, rfl, hp, hclr, rfl⟩ := hrel
          by_cases hp8 : p < 8 * S
          · obtain ⟨j8, r, hr8, hjr⟩ : ∃ j8 r : Nat, r < 8 ∧ p = 8 * j8 + r := ⟨p / 8, p % 8, by omega, by omega⟩
            have hbt := bit_of (bs := bs) (K1 := K1) (S := S) (p := p) hp8 hKS
            rw [HN.out] at hbt
            have e1 : p / 8 = j8 := by omega
            have e2 : p % 8 = r := by omega
            have hin : K1 + j8 < bs.length := by omega
            simp only [e1, e2] at hbt
            have hcb := HGW.out (K1 + j8) hin
            obtain ⟨y, hy⟩ : ∃ y, bs[K1 + j8].toNat = y := ⟨_, rfl⟩
            have hy256 : y < 256 := by rw [← hy]; exact bs[K1 + j8].toNat_lt
            rw [hy] at hcb hbt
            obtain ⟨β, hβ⟩ : ∃ β, y / 2 ^ r % 2 = β := ⟨_, rfl⟩
            have hβ2 : β < 2 := by rw [← hβ]; exact Nat.mod_lt _ (by decide)
            have hβe : (y : Int) / 2 ^ r % 2 = (β : Int) := by rw [← hβ]; simp
            have hq0 : (0 : Int) ≤ (y : Int) / 2 ^ r := Int.ediv_nonneg (by omega) (Int.pow_nonneg (by decide))
            rw [hβ] at hbt
            have q1 : (p : Int) % 8 = r := by omega
            have q2 : (p : Int) / 8 = j8 := by omega
            have q3 : (K1 : Int) + (j8 : Int) < (bs.length : Nat) := by omega
            have q5 : (0 : Int) ≤ (r : Int) := by omega
            have q6 : (r : Int) ≤ 64 := by omega
            have hpI : (p : Int) < 8 * (S : Int) := by omega
            by_cases hb0 : β = 0
            · have hcl2 := hclr.step (by rw [hbt]; exact hb0)
              have tb : ((β : Int) != 0) = false := by simp; omega
              have HCL := Lib.hid hcl2
              clear hclr hcl2 hbt hy hβ e1 e2 hjr hb0
              go_wp2
              go_roundw
              case rel => exact ⟨p + 1, by go_num, by omega, HCL.out, by first | rfl | trivial⟩
              case measure => simp [intOf]; omega
            · have hset := hclr.set (by rw [hbt]; exact hb0)
              have hres2 := HUP.out
              rw [if_neg (fun h => hset h.2)] at hres2
              have tb : ((β : Int) != 0) = true := by simp; omega
              have HR2 := Lib.hid hres2
              clear hclr hset hbt hy hβ e1 e2 hjr hb0 hres2
              go_wp2
              go_ret3
              exact DLs.err HR2.out (HB.out.alloc hsz _) rfl (own_empty _ _ _ (by first | exact Nat.le_refl _ | exact hsz))
          · have hdone := hclr.done (S := S) (by omega) HNL.out
            have hpI : ¬ (p : Int) < 8 * (S : Int) := by omega
            have hres2 := HUP.out
            have HD := Lib.hid hdone
            have HR2 := Lib.hid hres2
            clear hclr hdone hres2
            go_wp2_with fail
            refine C2.mono ?_
            rintro e w' ⟨rfl, rfl⟩
            clear C2
            by_cases hw : widL (unpack m i N) = m
            · have hres3 := HR2.out
              rw [if_pos ⟨hw, HD.out⟩] at hres3
              have tw : (((widL (unpack m i N) : Nat) : Int) != (m : Int)) = false := by rw [hw]; simp
              have HR3 := Lib.hid hres3
              clear hres3 hw
              go_wp2
              go_ret3
              exact DLs.ok HR3.out HB.out (by rw [HE.out, Int.natCast_add]; rfl) HOO.out
            · have hres3 := HR2.out
              rw [if_neg (fun h => hw h.1)] at hres3
              have tw : (((widL (unpack m i N) : Nat) : Int) != (m : Int)) = true := by simp; omega
              have HR3 := Lib.hid hres3
              clear hres3 hw
              go_wp2
              go_ret3
              exact DLs.err HR3.out (HB.out.alloc hsz _) rfl (own_empty _ _ _ (by first | exact Nat.le_refl _ | exact hsz))
end Go.Proofs.YtaijepjhmjjecaaDoor
