/- codec.Reader: Packed. -/
import Derived.Test.YthnpbfadblcicaaDoorZG14
import Derived.Test.YthnpbfadblcicaaDoorZPacked
namespace Go.Proofs.YthnpbfadblcicaaDoor
set_option linter.unusedVariables false
open Go.ChangeShapes Go.WideShapes Go.ChangeAt Go.RowKit

def toI : Except Nat (List Nat × Nat) → Except Nat (List Int × Nat)
  | .error e => .error e
  | .ok (r, j) => .ok (natI r, j)
theorem natI_append (a b : List Nat) : natI (a ++ b) = natI a ++ natI b := by simp [natI]
theorem fin_bits (N S nw : Nat) (hN : N < 256 ^ S) (h : nw ≤ 8 * S) : N / 2 ^ nw % 2 ^ (S * 8 - nw) = N / 2 ^ nw := by
  apply Nat.mod_eq_of_lt
  apply Nat.div_lt_of_lt_mul
  rw [← Nat.pow_add, show nw + (S * 8 - nw) = 8 * S by omega, Nat.pow_mul]; exact hN
theorem unpack_fits (w n N : Nat) (hw : w ≤ 63) : ∀ x ∈ unpack w n N, x < 2 ^ 63 := fun x hx => Nat.lt_of_lt_of_le (unpack_lt w n N x hx) (Nat.pow_le_pow_right (by decide) hw)

/-- The bytes that lie behind the place K. -/
theorem rd_mid {w : World} {base p : Nat} {av : Option Addr} {cv : Nat} {bs : List UInt8} {k : Nat} (h : Rdr w base p (.slice av bs.length cv) bs k) (K S : Nat) (hK : K + S ≤ bs.length) :
    (K < cv → ∃ g, av = some ⟨g, 0, none⟩ ∧ Rd w (.slice (some ⟨g, K, none⟩) S (cv - K)) (bytesV ((bs.drop K).take S))) ∧ (K = cv → Rd w (.slice av S 0) (bytesV ((bs.drop K).take S)) ∧ S = 0) := by
  have hcs : ((bs.drop K).take S).length = S := by rw [List.length_take, List.length_drop]; omega
  have hcap := own_cap h.own
  constructor
  · intro hk
    obtain ⟨g, rfl⟩ : ∃ g, av = some ⟨g, 0, none⟩ := by
      rcases h.own.shape with ⟨e, _⟩ | ⟨g, c, e, _⟩
      · injection e with _ _ e; omega
      · injection e with e _ _; exact ⟨g, e⟩
    refine ⟨g, rfl, _, cv - K, by rw [bytesV_length, hcs], by rw [bytesV_length, hcs]; omega, fun _ => ⟨g, K, rfl, fun j x hx => ?_⟩⟩
    have hjn : j < S := by have := (List.getElem?_eq_some_iff.1 hx).1; rw [bytesV_length, hcs] at this; exact this
    have e : (bytesV bs)[K + j]? = some x := by
      rw [← hx]; unfold bytesV
      rw [List.getElem?_map, List.getElem?_map, List.getElem?_take, if_pos hjn, List.getElem?_drop]
    exact h.own.get e
  · intro hk
    have hs0 : S = 0 := by omega
    exact ⟨⟨_, 0, by rw [bytesV_length, hcs], by rw [bytesV_length, hcs]; omega, fun h0 => by rw [bytesV_length, hcs] at h0; omega⟩, hs0⟩

set_option maxRecDepth 100000 in
set_option maxHeartbeats 2000000 in
/-- The ways that end ahead of the bits. -/
theorem rpck0_early (w : World) (base p : Nat) (v : Value) (bs : List UInt8) (k : Nat) (h : Rdr w base p v bs k) (hb : base ≤ w.heap.size) (EA : Nat → Addr) (hE : RErr w EA) (hG : GLow base) (most : Int) (hm0 : -9223372036854775808 ≤ most) (hm1 : most ≤ 9223372036854775807)
    (hearly : (∃ n, getUpto most (bs.drop k) = .error n) ∨ ∃ n c, getUpto most (bs.drop k) = .ok (n, c) ∧ (n = 0 ∨ bs.length ≤ k + c ∨ ∃ x r, bs.drop (k + c) = x :: r ∧ ((63 < x.toNat ∨ (x.toNat = 0 ∧ 65536 < n)) ∨ (0 < x.toNat ∧ x.toNat ≤ 63 ∧ r.length * 8 / x.toNat < n)))) :
    Calls Tryd.prog 72 #[.pointer (some ⟨p, 0, none⟩), .int .i64 most] w (LOut false w base p v bs k EA (toI (getPk most (bs.drop k)))) := by
  have C1 := rupto_out w base p v bs k h EA hE hG most hm0 hm1
  have hp := h.hp
  have hsm := h.sm
  have HE := Lib.hid hE
  have HG := Lib.hid hG
  clear hE hG
  rcases hearly with ⟨n, hres⟩ | ⟨n, c, hres, hrest⟩
  · have hup : toI (getPk most (bs.drop k)) = .error n := by unfold getPk; rw [hres]; rfl
    have HR := Lib.hid hres
    have HU := Lib.hid hup
    clear hres hup
    go_enter Tryd.func72, Tryd.ntmps72
    go_wp2_with fail
    refine C1.mono ?_
    rintro e w' ⟨h1, _⟩
    obtain ⟨rfl, hr, he⟩ := h1 n HR.out
    unfold errV
    go_wp2
    go_ret2
    exact LOut.err HU.out rfl (fun h => by cases h) hr he
  · obtain ⟨hgu, hnm⟩ := getUpto_len hres
    have hn64 := (getU_ok hgu).1
    have HR := Lib.hid hres
    rcases hrest with hn0 | hrest
    · have hup : toI (getPk most (bs.drop k)) = .ok ([], c) := by unfold getPk; rw [hres]; simp only [if_pos hn0]; rfl
      have HU := Lib.hid hup
      subst hn0
      clear hres hup hgu
      go_enter Tryd.func72, Tryd.ntmps72
      go_wp2_with fail
      refine C1.mono ?_
      rintro e w1 ⟨_, h1⟩
      obtain ⟨rfl, hr1, he1⟩ := h1 0 c HR.out
      clear h1 C1
      go_wp2
      go_ret2
      exact LOut.ok HU.out rfl (own_nil _ _ _) hr1 he1
    · by_cases hn0 : n = 0
      · have hup : toI (getPk most (bs.drop k)) = .ok ([], c) := by unfold getPk; rw [hres]; simp only [if_pos hn0]; rfl
        have HU := Lib.hid hup
        subst hn0
        clear hres hup hgu hrest
        go_enter Tryd.func72, Tryd.ntmps72
        go_wp2_with fail
        refine C1.mono ?_
        rintro e w1 ⟨_, h1⟩
        obtain ⟨rfl, hr1, he1⟩ := h1 0 c HR.out
        clear h1 C1
        go_wp2
        go_ret2
        exact LOut.ok HU.out rfl (own_nil _ _ _) hr1 he1
      · have tn : ((n : Int) == 0) = false := by simp; omega
        have hpk : getPk most (bs.drop k) = match getPB n (bs.drop (k + c)) with
          | .error e => .error e
          | .ok (r, j) => .ok (r, c + j) := by
          unfold getPk; rw [hres]; simp only [if_neg hn0, List.drop_drop]
          cases getPB n (bs.drop (k + c)) with
          | error e => rfl
          | ok y => rfl
        rcases hrest with hsh | ⟨x, r, hdr, hbad⟩
        · have hup : toI (getPk most (bs.drop k)) = .error 1 := by rw [hpk, List.drop_eq_nil_of_le hsh]; rfl
          have HU := Lib.hid hup
          clear hres hup hgu hpk
          go_enter Tryd.func72, Tryd.ntmps72
          go_wp2_with fail
          refine C1.mono ?_
          rintro e w1 ⟨_, h1⟩
          obtain ⟨rfl, hr1, he1⟩ := h1 n c HR.out
          have C2 := rbyte_err w1 base p v bs (k + c) hr1 EA (HE.out.eff he1 HG.out (fun k hk => by subst hk; exact hp)) (by omega)
          clear h1 C1
          go_wp2_with fail
          refine C2.mono ?_
          rintro e w2 ⟨rfl, hr2, he2⟩
          unfold errV
          go_wp2
          go_ret2
          exact LOut.err HU.out rfl (fun h => by cases h) hr2 (he1.trans he2 (fun _ h _ => h))
        · have hlt : k + c < bs.length := by
            rcases Nat.lt_or_ge (k + c) bs.length with h2 | h2
            · exact h2
            · rw [List.drop_eq_nil_of_le h2] at hdr; cases hdr
          have hx : bs[k + c] = x ∧ bs.drop (k + c + 1) = r := by
            rw [List.drop_eq_getElem_cons hlt] at hdr
            injection hdr with h1 h2; exact ⟨h1, h2⟩
          obtain ⟨m, hm⟩ : ∃ m, x.toNat = m := ⟨_, rfl⟩
          have hm256 : m < 256 := by rw [← hm]; exact x.toNat_lt
          have hrl : r.length = bs.length - (k + c + 1) := by rw [← hx.2, List.length_drop]
          rw [hm] at hbad
          rcases hbad with hbad | ⟨hb0, hb63, hbad⟩
          · have hup : toI (getPk most (bs.drop k)) = .error 3 := by
              rw [hpk, hdr, getPB, hm, if_pos hbad]; rfl
            have HU := Lib.hid hup
            have HXM := Lib.hid (show bs[k + c].toNat = m by rw [hx.1, hm])
            clear hres hup hgu hpk hdr hx hm hrl
            have hcs : (63 < m) ∨ (m = 0 ∧ 65536 < n) := hbad
            have go1 : decide ((63 : Int) < m) = true ∨ (m = 0 ∧ decide ((65536 : Int) < n) = true) := by
              rcases hcs with h | ⟨h1, h2⟩
              · exact .inl (decide_eq_true (by omega))
              · exact .inr ⟨h1, decide_eq_true (by omega)⟩
            clear hbad hcs
            rcases go1 with t1 | ⟨rfl, t1⟩
            all_goals
              go_enter Tryd.func72, Tryd.ntmps72
              go_wp2_with fail
              refine C1.mono ?_
              rintro e w1 ⟨_, h1⟩
              obtain ⟨rfl, hr1, he1⟩ := h1 n c HR.out
              have C2 := rbyte_ok w1 base p v bs (k + c) hr1 hlt
              rw [HXM.out] at C2
              have hE1 := HE.out.eff he1 HG.out (fun k hk => by subst hk; exact hp)
              clear h1 C1
              go_wp2_with fail
              refine C2.mono ?_
              rintro e w2 ⟨rfl, hr2, he2⟩
              have hl2 := (hE1.eff he2 HG.out (fun k hk => by subst hk; exact hp)).l
              unfold errV at hl2
              go_wp2
              go_quiet (fail)
              go_wp2
              go_ret2
              exact LOut.err HU.out rfl (fun h => by cases h) (hr2.drewN _) ((he1.trans he2 (fun _ h _ => h)).drewN _)
          · have hup : toI (getPk most (bs.drop k)) = .error 1 := by
              rw [hpk, hdr, getPB, hm, if_neg (by omega), if_pos ⟨hb0, hbad⟩]; rfl
            have HU := Lib.hid hup
            have HXM := Lib.hid (show bs[k + c].toNat = m by rw [hx.1, hm])
            rw [hrl] at hbad
            clear hres hup hgu hpk hdr hx hm hrl
            have t1 : decide ((63 : Int) < m) = false := decide_eq_false (by omega)
            have t2 : ((m : Int) == 0) = false := by simp; omega
            have t3 : decide ((0 : Int) < m) = true := decide_eq_true (by omega)
            obtain ⟨K1, hK1⟩ : ∃ K1, k + c + 1 = K1 := ⟨_, rfl⟩
            rw [hK1] at hbad
            obtain ⟨Q, hQ⟩ : ∃ Q, (bs.length - K1) * 8 / m = Q := ⟨_, rfl⟩
            rw [hQ] at hbad
            have hQi : ((bs.length : Int) - (K1 : Int)) * 8 / (m : Int) = (Q : Int) := by rw [← hQ]; simp; congr 1; omega
            have t4 : decide ((Q : Int) < (n : Int)) = true := decide_eq_true (by omega)
            have t5 : decide (Q < n) = true := decide_eq_true hbad
            have HKK := Lib.hid hK1
            clear hQ hK1
            go_enter Tryd.func72, Tryd.ntmps72
            go_wp2_with fail
            refine C1.mono ?_
            rintro e w1 ⟨_, h1⟩
            obtain ⟨rfl, hr1, he1⟩ := h1 n c HR.out
            have C2 := rbyte_ok w1 base p v bs (k + c) hr1 hlt
            rw [HXM.out, HKK.out] at C2
            have hE1 := HE.out.eff he1 HG.out (fun k hk => by subst hk; exact hp)
            clear h1 C1
            go_wp2_with fail
            refine C2.mono ?_
            rintro e w2 ⟨rfl, hr2, he2⟩
            have hs2 := (hE1.eff he2 HG.out (fun k hk => by subst hk; exact hp)).s
            have C3 := rleft_any w2 base p v bs K1 hr2
            have hK1l := hr2.le
            unfold errV at hs2
            go_wp2_with fail
            refine C3.mono ?_
            rintro e w3 ⟨rfl, d, rfl⟩
            go_wp2
            go_quiet (fail)
            go_wp2
            go_ret2
            exact LOut.err HU.out rfl (fun h => by cases h) ((hr2.drewN d).drewN _) (((he1.trans he2 (fun _ h _ => h)).drewN d).drewN _)

def zerI (n : Nat) : List Value := List.replicate n (.int .i64 0)
theorem madeZerI (n : Nat) : madeCells #[.int .i64 0] n = (zerI n).toArray := by
  refine Array.ext (by rw [size_madeCells]; simp [zerI]) fun i h1 h2 => ?_
  simp [madeCells, zerI, Nat.mod_one]
theorem zerI_set (l : List Int) (n i : Nat) (x : Int) (hl : l.length = i) (h : i < n) : (intL l ++ zerI (n - i)).set i (.int .i64 x) = intL (l ++ [x]) ++ zerI (n - (i + 1)) := by
  rw [List.set_append, if_neg (by rw [intL_length]; omega), intL_length, hl, Nat.sub_self]
  obtain ⟨q, hq⟩ : ∃ q, n - i = q + 1 := ⟨n - i - 1, by omega⟩
  rw [hq, show n - (i + 1) = q by omega]
  unfold zerI
  rw [List.replicate_succ, List.set_cons_zero, intL_append]
  simp [intL]

set_option maxRecDepth 100000 in
set_option maxHeartbeats 4000000 in
theorem rpck0_bits (w : World) (base p : Nat) (v : Value) (bs : List UInt8) (k : Nat) (h : Rdr w base p v bs k) (hb : base ≤ w.heap.size) (EA : Nat → Addr) (hE : RErr w EA) (hG : GLow base) (most : Int) (hm0 : -9223372036854775808 ≤ most) (hm1 : most ≤ 9223372036854775807)
    (n c m K1 S N : Nat) (hres : getUpto most (bs.drop k) = .ok (n, c)) (hn0 : 0 < n) (hlt : k + c < bs.length) (hm : bs[k + c].toNat = m) (hm63 : m ≤ 63) (hmp : 0 < m) (hK1 : k + c + 1 = K1) (hS : (n * m + 7) / 8 = S) (hKS : K1 + S ≤ bs.length) (hfit : ¬ (bs.length - K1) * 8 / m < n)
    (hN : leN ((bs.drop K1).take S) = N) (hup : toI (getPk most (bs.drop k)) = if widL (unpack m n N) = m ∧ N / 2 ^ (n * m) = 0 then .ok (natI (unpack m n N), c + (1 + S)) else .error 4) :
    Calls Tryd.prog 72 #[.pointer (some ⟨p, 0, none⟩), .int .i64 most] w (LOut false w base p v bs k EA (toI (getPk most (bs.drop k)))) := by
  have C1 := rupto_out w base p v bs k h EA hE hG most hm0 hm1
  have hp := h.hp
  have hsm := h.sm
  have HE := Lib.hid hE
  have HG := Lib.hid hG
  have HR := Lib.hid hres
  have HU := Lib.hid hup
  have HXM := Lib.hid hm
  have HK := Lib.hid hK1
  have HN := Lib.hid hN
  have hnm8 : n * m ≤ 8 * S := by omega
  have hnmi : (n : Int) * (m : Int) ≤ 8000000000 := by rw [← Int.natCast_mul]; omega
  have hnmi0 : 0 ≤ (n : Int) * (m : Int) := by rw [← Int.natCast_mul]; omega
  have hnb : n ≤ 8000000000 := by
    have h1 : n * 1 ≤ n * m := Nat.mul_le_mul_left n hmp; omega
  have hN256 : N < 256 ^ S := by
    have := leN_lt ((bs.drop K1).take S)
    rw [hN, List.length_take, List.length_drop, Nat.min_eq_left (by omega)] at this; exact this
  have hL8 : S * 8 - n * m ≤ 7 := by omega
  have qS : ((n : Int) * (m : Int) + 7) / 8 = (S : Nat) := by rw [← Int.natCast_mul]; omega
  have HNM := Lib.hid hnm8
  have HFB := Lib.hid (fin_bits N S (n * m) hN256 hnm8)
  have HUF := Lib.hid (unpack_fits m n N hm63)
  have tn : ((n : Int) == 0) = false := by simp; omega
  have t1 : decide ((63 : Int) < m) = false := decide_eq_false (by omega)
  obtain ⟨t2, t3, Q, tq, t4, t5⟩ : ((m : Int) == 0) = false ∧ 0 < m ∧ ∃ Q : Nat, ((bs.length : Int) - (K1 : Int)) * 8 / (m : Int) = (Q : Int) ∧ decide ((Q : Int) < (n : Int)) = false ∧ decide (Q < n) = false := by
    refine ⟨by simp; omega, hmp, (bs.length - K1) * 8 / m, ?_, decide_eq_false (by omega), decide_eq_false hfit⟩
    simp; congr 1; omega
  have HNB := Lib.hid hnb
  clear hE hG hres hup hm hK1 hS hfit hN
  · go_enter Tryd.func72, Tryd.ntmps72
    go_wp2_with fail
    refine C1.mono ?_
    rintro e w1 ⟨_, h1⟩
    obtain ⟨rfl, hr1, he1⟩ := h1 n c HR.out
    have C2 := rbyte_ok w1 base p v bs (k + c) hr1 hlt
    rw [HXM.out, HK.out] at C2
    have hE1 := HE.out.eff he1 HG.out (fun k hk => by subst hk; exact hp)
    clear h1 C1
    go_wp2_with fail
    refine C2.mono ?_
    rintro e w2 ⟨rfl, hr2, he2⟩
    have C3 := rleft_any w2 base p v bs K1 hr2
    have hK1l := hr2.le
    go_wp2_with fail
    refine C3.mono ?_
    rintro e w3 ⟨rfl, d, rfl⟩
    have hr3 := hr2.drewN d
    have he3 : Eff (· = p) w (w2.drewN d) := (he1.trans he2 (fun _ h _ => h)).drewN d
    have hE3 := HE.out.eff he3 HG.out (fun k hk => by subst hk; exact hp)
    go_upto_region 14 with fail
    rw [qS]
    generalize w2.drewN d = W2 at hr3 he3 hE3 ⊢
    clear C3 hr2 he1 he2 hr1 hE1 C2
    obtain ⟨av, nv, cv, rfl⟩ := own_sl h.own
    have hnv := h.own.len
    rw [bytesV_length] at hnv
    subst hnv
    have hcap := own_cap h.own
    obtain ⟨hmid1, hmid2⟩ := rd_mid hr3 K1 S hKS
    have c0 := hr3.c0
    have c2 := hr3.c2
    have q1 : IntKind.i64.wrap ((K1 : Int) + (S : Int)) = (K1 : Int) + (S : Int) := IntWalk.i64_in _ (by omega)
    have q2 : (K1 : Int) + (S : Int) ≤ (bs.length : Nat) := by omega
    have q3 : (bs.length : Int) ≤ (cv : Nat) := by omega
    have q4 : (cv : Int) ≤ 9223372036854775807 := by have := hcap.2; unfold maxLen at this; omega
    have q5 : (K1 : Int) + (S : Int) - (K1 : Int) = S := by omega
    have hkc : K1 < cv ∨ K1 = cv := by omega
    have hS0 : 0 < S := by
      have := Nat.mul_le_mul hn0 t3
      omega
    have hkc2 : K1 < cv := by omega
    obtain ⟨g, rfl, hrd⟩ := hmid1 hkc2
    have hne : ¬ cv = K1 := by omega
    have HRD := Lib.hid hrd
    clear hmid1 hmid2 hrd hkc hcap
    go_quiet (fail)
    have hmk := fun (w : World) => make_row elInts rfl n (by omega) (n : Int) rfl w
    have hge := h.ge
    have hwB : w.heap.size ≤ W2.heap.size := he3.size
    have hown0 := own_lit (W2.drewN nq) w.heap.size 3 (zerI n) hwB (by simp [zerI, maxLen]; omega)
    rw [show (zerI n).length = n by simp [zerI], ← madeZerI, show (W2.drewN nq).heap.size = W2.heap.size from rfl] at hown0
    have he4 : Eff (· = p) w ((W2.drewN nq).alloc (.cells (madeCells #[.int .i64 0] n) 3)) := (he3.drewN nq).alloc _
    have hr4 : Rdr ((W2.drewN nq).alloc (.cells (madeCells #[.int .i64 0] n) 3)) base p (.slice (some ⟨g, 0, none⟩) bs.length cv) bs K1 := (hr3.drewN nq).eff (F := fun _ => False) ((Eff.refl _ _).alloc _) (fun _ _ f => f)
    have HO0 := Lib.hid hown0
    have HE4 := Lib.hid he4
    have HR4 := Lib.hid hr4
    obtain ⟨B, hB⟩ : ∃ B, W2.heap.size = B := ⟨_, rfl⟩
    rw [hB] at HO0 hwB
    have hBe : (W2.drewN nq).heap.size = B := hB
    have HGE := Lib.hid hge
    clear hown0 he4 hr4 hge hr3 he3 c0 c2
    go_wp2
    try simp only [hBe, hB]
    simp only [Nat.add_sub_cancel_left]
    clear hBe hB hmk tq t4 t5 qS q1 q5
    go_loopw [13, 14, 90] (fun s13 s14 s90 wr => ∃ i : Nat, s90 = .int .i64 i ∧ i ≤ n ∧ s13 = .int .i64 ((i : Int) * (m : Int)) ∧ s14 = .int .i64 (orL (unpack m i N) : Nat) ∧
        Own wr w.heap.size 3 (.slice (some ⟨B, 0, none⟩) n n) (intL (natI (unpack m i N)) ++ zerI (n - i)) ∧ Rdr wr base p (.slice (some ⟨g, 0, none⟩) bs.length cv) bs K1 ∧ Eff (· = p) w wr) (fun _ _ s _ => n - (intOf s).toNat)
    case atStart => exact ⟨0, rfl, Nat.zero_le _, by simp, rfl, HO0.out, HR4.out, HE4.out⟩
    case round =>
      obtain ⟨i, rfl, hi, rfl, rfl, ho, hr, he⟩ := hrel
      have hor63 : orL (unpack m i N) < 2 ^ 63 := orL_lt _ (unpack_fits m i N hm63)
      by_cases hilt : i < n
      · obtain ⟨hmid1, _⟩ := rd_mid hr K1 S hKS
        obtain ⟨g', hg', hrd⟩ := hmid1 hkc2
        have hg2 : g' = g := by injection hg' with h1; injection h1 with h2; exact h2.symm
        subst hg2
        have him : (i + 1) * m ≤ n * m := Nat.mul_le_mul_right m hilt
        rw [Nat.add_mul, Nat.one_mul] at him
        have hcl : ((bs.drop K1).take S).length = S := by rw [List.length_take, List.length_drop]; omega
        have C4 := bitsAt_any wr _ _ hrd (i * m) m hm63 (by rw [hcl]; omega) (by rw [hcl]; omega)
        rw [HN.out, Int.natCast_mul] at C4
        have hlen : (natI (unpack m i N)).length = i := by rw [natI_length, unpack_length]
        have hget : (intL (natI (unpack m i N)) ++ zerI (n - i))[i]? = some (.int .i64 0) := by
          rw [List.getElem?_append_right (by rw [intL_length, hlen]; exact Nat.le_refl _), intL_length, hlen, Nat.sub_self]
          unfold zerI
          rw [List.getElem?_replicate, if_pos (by omega)]
        have hcell := ho.get hget
        have hfz := ho.frozen i
        obtain ⟨x, hx⟩ : ∃ x, N / 2 ^ (i * m) % 2 ^ m = x := ⟨_, rfl⟩
        rw [hx] at C4
        have hx63 : x < 2 ^ 63 := by rw [← hx]; exact Nat.lt_of_lt_of_le (Nat.mod_lt _ (Nat.two_pow_pos m)) (Nat.pow_le_pow_right (by decide) hm63)
        have HSU := Lib.hid (show unpack m (i + 1) N = unpack m i N ++ [x] by rw [unpack_succ, Nat.mul_comm m i, hx])
        have hset := ho.set i (.int .i64 (x : Nat))
        rw [zerI_set _ n i (x : Int) hlen hilt] at hset
        have HST := Lib.hid hset
        have hor := i64_or_nat (orL (unpack m i N)) x hor63 hx63
        have HOR := Lib.hid (hor.trans (congrArg Nat.cast (orL_snoc (unpack m i N) x).symm))
        have HRS := Lib.hid (hr.eff (F := (· = B)) ((Eff.refl _ _).setP i (.int .i64 (x : Nat))) (fun k hk e => by have := (HGE.out k hk).2; omega))
        have HES := Lib.hid (he.setCell (p := ⟨B, i, none⟩) (fun h => by simp only at h; omega) (.int .i64 (x : Nat)))
        have z1 : (i : Int) * (m : Int) ≤ 8000000000 := by rw [← Int.natCast_mul]; omega
        have z2 : 0 ≤ (i : Int) * (m : Int) := by rw [← Int.natCast_mul]; omega
        clear hget hx hset hor hmid1 hrd hr he ho
        go_wp2_with fail
        refine C4.mono ?_
        rintro e w' ⟨rfl, rfl⟩
        go_wp2
        go_roundw
        case rel =>
          refine ⟨i + 1, by go_num, by omega, ?_, by rw [HOR.out, HSU.out], by rw [HSU.out, natI_append]; exact HST.out, HRS.out, HES.out⟩
          congr 1
          rw [show ((i + 1 : Nat) : Int) = (i : Int) + 1 by omega, Int.add_mul, Int.one_mul]
        case measure => simp [intOf]; omega
      · obtain rfl : i = n := by omega
        have hor2 : ((orL (unpack m i N) : Nat) : Int) ≤ 9223372036854775807 := by omega
        have hbl := bitLen_orL (unpack m i N) (fun x hx => Nat.lt_trans (HUF.out x hx) (by decide))
        obtain ⟨W, hW⟩ : ∃ W, widL (unpack m i N) = W := ⟨_, rfl⟩
        rw [hW] at hbl
        have HBL := Lib.hid hbl
        have hup := HU.out
        rw [hW] at hup
        have hW63 : W ≤ 63 := by rw [← hW]; exact widL_63 HUF.out
        rw [Nat.sub_self, show zerI 0 = [] from rfl, List.append_nil] at ho
        have hcl : ((bs.drop K1).take S).length = S := by rw [List.length_take, List.length_drop]; omega
        have hK1c : K1 + S = k + (c + (1 + S)) := by have := HK.out; omega
        have HKC := Lib.hid hK1c
        have HUPP := Lib.hid hup
        clear hbl hW hK1c hup
        go_wp2_with fail
        refine (len_any _ _ (by omega) (by omega)).mono ?_
        rintro e w' ⟨rfl, rfl⟩
        rw [Int.toNat_natCast, HBL.out]
        have hup := HUPP.out
        by_cases hWm : W = m
        · subst hWm
          obtain ⟨hmid1, _⟩ := rd_mid hr K1 S hKS
          obtain ⟨g', hg', hrd⟩ := hmid1 hkc2
          have hg2 : g' = g := by injection hg' with h1; injection h1 with h2; exact h2.symm
          subst hg2
          have C4 := bitsAt_any wr _ _ hrd (i * W) (S * 8 - i * W) (by omega) (by rw [hcl]; omega) (by rw [hcl]; omega)
          rw [HN.out, HFB.out] at C4
          have hsub : ((S * 8 - i * W : Nat) : Int) = (S : Int) * 8 - (i : Int) * (W : Int) := by rw [← Int.natCast_mul]; omega
          rw [Int.natCast_mul, hsub] at C4
          have y1 : (S : Int) * 8 - (i : Int) * (W : Int) ≤ 7 := by rw [← hsub]; omega
          have y0 : 0 ≤ (S : Int) * 8 - (i : Int) * (W : Int) := by rw [← hsub]; omega
          obtain ⟨T, hT⟩ : ∃ T, N / 2 ^ (i * W) = T := ⟨_, rfl⟩
          rw [hT] at C4 hup
          have HT := Lib.hid hT
          clear hT hsub hmid1 hrd
          by_cases hT0 : T = 0
          · subst hT0
            rw [if_pos ⟨rfl, rfl⟩] at hup
            have HUP := Lib.hid hup
            have HM := Lib.hid (hr.move (K1 + S) hKS)
            have HEP := Lib.hid (he.setP 0 (.int .i64 ((K1 + S : Nat) : Int)))
            have HOP := Lib.hid (ho.setOther (p := ⟨p, 0, none⟩) (ho.ne_type hr.blk (by decide)) (.int .i64 ((K1 + S : Nat) : Int)))
            rw [Int.natCast_add K1 S] at HM HEP HOP
            have c0 := hr.c0
            have hf0 := hr.fz 0
            clear hup hr he ho
            go_wp2_with fail
            refine C4.mono ?_
            rintro e w' ⟨rfl, rfl⟩
            go_wp2
            go_ret2
            exact LOut.ok HUP.out rfl HOP.out (by rw [← HKC.out]; exact HM.out) HEP.out
          · rw [if_neg (fun h => hT0 h.2)] at hup
            have HUP := Lib.hid hup
            have t0 : ((T : Int) != 0) = true := by simp; omega
            have hE4 := (HE.out.eff he HG.out (fun k hk => by subst hk; exact hp)).o
            unfold errV at hE4
            clear hup
            go_wp2_with fail
            refine C4.mono ?_
            rintro e w' ⟨rfl, rfl⟩
            go_wp2
            go_quiet (fail)
            go_wp2
            go_ret2
            exact LOut.err HUP.out rfl (fun h => by cases h) (hr.drewN _) (he.drewN _)
        · rw [if_neg (fun h => hWm h.1)] at hup
          have HUP := Lib.hid hup
          have t0 : ((W : Int) != (m : Int)) = true := by simp; omega
          have t0b : (W != m) = true := by simp [hWm]
          have hE4 := (HE.out.eff he HG.out (fun k hk => by subst hk; exact hp)).o
          unfold errV at hE4
          clear hup
          go_wp2
          go_quiet (fail)
          go_wp2
          go_ret2
          exact LOut.err HUP.out rfl (fun h => by cases h) (hr.drewN _) (he.drewN _)

theorem zerI_set0 (n i : Nat) : (zerI n).set i (.int .i64 0) = zerI n := by
  apply List.ext_getElem?
  intro j
  unfold zerI
  rw [List.getElem?_set]
  split
  · next e =>
    subst e
    rw [List.getElem?_replicate, List.length_replicate]
  · rfl
theorem unpack_zero (n N : Nat) : unpack 0 n N = List.replicate n 0 := by
  unfold unpack
  apply List.ext_getElem?
  intro j
  rw [List.getElem?_map, List.getElem?_replicate]
  by_cases h : j < n
  · rw [if_pos h, List.getElem?_range h]; simp [Nat.mod_one]
  · rw [if_neg h, List.getElem?_eq_none (by simp; omega)]; rfl
theorem zerI_eq (n N : Nat) : intL (natI (unpack 0 n N)) = zerI n := by rw [unpack_zero]; simp [intL, natI, zerI]

set_option maxRecDepth 100000 in
set_option maxHeartbeats 2000000 in
theorem rpck0_zero (w : World) (base p : Nat) (v : Value) (bs : List UInt8) (k : Nat) (h : Rdr w base p v bs k) (hb : base ≤ w.heap.size) (EA : Nat → Addr) (hE : RErr w EA) (hG : GLow base) (most : Int) (hm0 : -9223372036854775808 ≤ most) (hm1 : most ≤ 9223372036854775807)
    (n c K1 : Nat) (hres : getUpto most (bs.drop k) = .ok (n, c)) (hn0 : 0 < n) (hlt : k + c < bs.length) (hm : bs[k + c].toNat = 0) (hn65 : n ≤ 65536) (hK1 : k + c + 1 = K1)
    (hup : toI (getPk most (bs.drop k)) = .ok (natI (unpack 0 n 0), c + 1)) :
    Calls Tryd.prog 72 #[.pointer (some ⟨p, 0, none⟩), .int .i64 most] w (LOut false w base p v bs k EA (toI (getPk most (bs.drop k)))) := by
  have C1 := rupto_out w base p v bs k h EA hE hG most hm0 hm1
  have hp := h.hp
  have hsm := h.sm
  have HE := Lib.hid hE
  have HG := Lib.hid hG
  have HR := Lib.hid hres
  have HU := Lib.hid hup
  have HXM := Lib.hid hm
  have HK := Lib.hid hK1
  have tn : ((n : Int) == 0) = false := by simp; omega
  have t4 : decide ((65536 : Int) < n) = false := decide_eq_false (by omega)
  clear hE hG hres hup hm hK1
  go_enter Tryd.func72, Tryd.ntmps72
  go_wp2_with fail
  refine C1.mono ?_
  rintro e w1 ⟨_, h1⟩
  obtain ⟨rfl, hr1, he1⟩ := h1 n c HR.out
  have C2 := rbyte_ok w1 base p v bs (k + c) hr1 hlt
  rw [HXM.out, HK.out] at C2
  clear h1 C1
  go_wp2_with fail
  refine C2.mono ?_
  rintro e w2 ⟨rfl, hr3, he2⟩
  have he3 : Eff (· = p) w w2 := he1.trans he2 (fun _ h _ => h)
  have hK1l := hr3.le
  obtain ⟨av, nv, cv, rfl⟩ := own_sl h.own
  have hnv := h.own.len
  rw [bytesV_length] at hnv
  subst hnv
  have hcap := own_cap h.own
  obtain ⟨hmid1, hmid2⟩ := rd_mid hr3 K1 0 (by omega)
  have c0 := hr3.c0
  have c2 := hr3.c2
  have q2 : (K1 : Int) ≤ (bs.length : Nat) := by omega
  have q3 : (bs.length : Int) ≤ (cv : Nat) := by omega
  have q4 : (cv : Int) ≤ 9223372036854775807 := by have := hcap.2; unfold maxLen at this; omega
  have hge := h.ge
  have HGE := Lib.hid hge
  have fin : ∀ (wr : World) (sv' : Value), Rd wr sv' (bytesV []) → Calls Tryd.prog 79 #[sv', .int .i64 0, .int .i64 0] wr fun e w' => e = .returned (.int .i64 0) ∧ wr = w' := by
    intro wr sv' hr
    have := bitsAt_any wr sv' [] hr 0 0 (by omega) (by simp) (by simp)
    simpa [leN, Nat.mod_one] using this
  have q5 : (K1 : Int) - (K1 : Int) = 0 := by omega
  have hkc : K1 < cv ∨ K1 = cv := by omega
  clear hcap hr1 he1 he2 hge
  rcases hkc with hkc | hkc
  · obtain ⟨g, rfl, hrd⟩ := hmid1 hkc
    have hne : ¬ cv = K1 := by omega
    rw [List.take_zero] at hrd
    clear hmid1 hmid2
    go_upto_region 14 with fail
    go_quiet (fail)
    have hmk := fun (w : World) => make_row elInts rfl n (by omega) (n : Int) rfl w
    have hwB : w.heap.size ≤ w2.heap.size := he3.size
    have hown0 := own_lit (w2.drewN nq) w.heap.size 3 (zerI n) hwB (by simp [zerI, maxLen]; omega)
    rw [show (zerI n).length = n by simp [zerI], ← madeZerI, show (w2.drewN nq).heap.size = w2.heap.size from rfl] at hown0
    have he4 : Eff (· = p) w ((w2.drewN nq).alloc (.cells (madeCells #[.int .i64 0] n) 3)) := (he3.drewN nq).alloc _
    have heb : Eff (fun _ => False) w2 ((w2.drewN nq).alloc (.cells (madeCells #[.int .i64 0] n) 3)) := ((Eff.refl _ _).drewN nq).alloc _
    have hr4 := hr3.eff heb (fun _ _ f => f)
    have HO0 := Lib.hid hown0
    have HE4 := Lib.hid he4
    have HR4 := Lib.hid hr4
    have hrd4 := hrd.eff heb (fun _ _ _ _ _ f => f)
    have HRD4 := Lib.hid hrd4
    obtain ⟨B, hB⟩ : ∃ B, w2.heap.size = B := ⟨_, rfl⟩
    rw [hB] at HO0 hwB
    have hBe : (w2.drewN nq).heap.size = B := hB
    clear hown0 he4 hr4 hr3 he3 c0 c2 heb hrd hrd4
    go_wp2
    try simp only [hBe, hB]
    try simp only [Nat.sub_self]
    clear hBe hB hmk
    go_loopw [13, 14, 90] (fun s13 s14 s90 wr => ∃ i : Nat, s90 = .int .i64 i ∧ i ≤ n ∧ s13 = .int .i64 0 ∧ s14 = .int .i64 0 ∧
        Own wr w.heap.size 3 (.slice (some ⟨B, 0, none⟩) n n) (zerI n) ∧ Rdr wr base p (.slice (some ⟨g, 0, none⟩) bs.length cv) bs K1 ∧ Eff (· = p) w wr ∧ Rd wr (.slice (some ⟨g, K1, none⟩) 0 (cv - K1)) (bytesV [])) (fun _ _ s _ => n - (intOf s).toNat)
    case atStart => exact ⟨0, rfl, Nat.zero_le _, rfl, rfl, HO0.out, HR4.out, HE4.out, HRD4.out⟩
    case round =>
      obtain ⟨i, rfl, hi, rfl, rfl, ho, hr, he, hrd⟩ := hrel
      have C4 := fin wr _ hrd
      by_cases hilt : i < n
      · have hget : (zerI n)[i]? = some (.int .i64 0) := by unfold zerI; rw [List.getElem?_replicate, if_pos hilt]
        have hcell := ho.get hget
        have hfz := ho.frozen i
        have hset := ho.set i (.int .i64 0)
        rw [zerI_set0] at hset
        have HST := Lib.hid hset
        have HRS := Lib.hid (hr.eff (F := (· = B)) ((Eff.refl _ _).setP i (.int .i64 0)) (fun k hk e => by have := (HGE.out k hk).2; omega))
        have HES := Lib.hid (he.setCell (p := ⟨B, i, none⟩) (fun h => by simp only at h; omega) (.int .i64 0))
        have HRDS := Lib.hid (hrd.eff (F := (· = B)) ((Eff.refl _ _).setP i (.int .i64 0)) (fun b o l c' e hbB => (by injection e with e1; injection e1 with e1; injection e1 with e1; have h9 := (HGE.out b (.inr (by rw [← e1]; rfl))).2; omega)))
        clear hget hset hr he ho hrd
        go_wp2_with fail
        refine C4.mono ?_
        rintro e w' ⟨rfl, rfl⟩
        go_wp2
        go_roundw
        case rel => exact ⟨i + 1, by go_num, by omega, by first | rfl | simp, by first | rfl | (simp; rfl) | decide, HST.out, HRS.out, HES.out, HRDS.out⟩
        case measure => simp [intOf]; omega
      · obtain rfl : i = n := by omega
        go_wp2_with fail
        refine (len_any 0 _ (by omega) (by omega)).mono ?_
        rintro e w' ⟨rfl, rfl⟩
        rw [show ((Lib.bitLen (0 : Int).toNat : Nat) : Int) = 0 by decide]
        have HM := Lib.hid (hr.move K1 hK1l)
        have HEP := Lib.hid (he.setP 0 (.int .i64 ((K1 : Nat) : Int)))
        have HOP := Lib.hid (ho.setOther (p := ⟨p, 0, none⟩) (ho.ne_type hr.blk (by decide)) (.int .i64 ((K1 : Nat) : Int)))
        have c0 := hr.c0
        have hf0 := hr.fz 0
        clear hr he ho hrd
        go_wp2_with fail
        refine C4.mono ?_
        rintro e w' ⟨rfl, rfl⟩
        go_wp2
        go_ret2
        refine LOut.ok HU.out rfl ?_ ?_ HEP.out
        · rw [zerI_eq]; exact HOP.out
        · rw [show k + (c + 1) = K1 by have := HK.out; omega]; exact HM.out
  · subst hkc
    have hrd := (hmid2 rfl).1
    rw [List.take_zero] at hrd
    clear hmid1 hmid2
    go_upto_region 14 with fail
    go_quiet (fail)
    have hmk := fun (w : World) => make_row elInts rfl n (by omega) (n : Int) rfl w
    have hwB : w.heap.size ≤ w2.heap.size := he3.size
    have hown0 := own_lit (w2.drewN nq) w.heap.size 3 (zerI n) hwB (by simp [zerI, maxLen]; omega)
    rw [show (zerI n).length = n by simp [zerI], ← madeZerI, show (w2.drewN nq).heap.size = w2.heap.size from rfl] at hown0
    have he4 : Eff (· = p) w ((w2.drewN nq).alloc (.cells (madeCells #[.int .i64 0] n) 3)) := (he3.drewN nq).alloc _
    have heb : Eff (fun _ => False) w2 ((w2.drewN nq).alloc (.cells (madeCells #[.int .i64 0] n) 3)) := ((Eff.refl _ _).drewN nq).alloc _
    have hr4 := hr3.eff heb (fun _ _ f => f)
    have HO0 := Lib.hid hown0
    have HE4 := Lib.hid he4
    have HR4 := Lib.hid hr4
    have hrd4 := hrd.eff heb (fun _ _ _ _ _ f => f)
    have HRD4 := Lib.hid hrd4
    obtain ⟨B, hB⟩ : ∃ B, w2.heap.size = B := ⟨_, rfl⟩
    rw [hB] at HO0 hwB
    have hBe : (w2.drewN nq).heap.size = B := hB
    clear hown0 he4 hr4 hr3 he3 c0 c2 heb hrd hrd4
    go_wp2
    try simp only [hBe, hB]
    try simp only [Nat.sub_self]
    clear hBe hB hmk
    go_loopw [13, 14, 90] (fun s13 s14 s90 wr => ∃ i : Nat, s90 = .int .i64 i ∧ i ≤ n ∧ s13 = .int .i64 0 ∧ s14 = .int .i64 0 ∧
        Own wr w.heap.size 3 (.slice (some ⟨B, 0, none⟩) n n) (zerI n) ∧ Rdr wr base p (.slice av bs.length K1) bs K1 ∧ Eff (· = p) w wr ∧ Rd wr (.slice av 0 0) (bytesV [])) (fun _ _ s _ => n - (intOf s).toNat)
    case atStart => exact ⟨0, rfl, Nat.zero_le _, rfl, rfl, HO0.out, HR4.out, HE4.out, HRD4.out⟩
    case round =>
      obtain ⟨i, rfl, hi, rfl, rfl, ho, hr, he, hrd⟩ := hrel
      have C4 := fin wr _ hrd
      by_cases hilt : i < n
      · have hget : (zerI n)[i]? = some (.int .i64 0) := by unfold zerI; rw [List.getElem?_replicate, if_pos hilt]
        have hcell := ho.get hget
        have hfz := ho.frozen i
        have hset := ho.set i (.int .i64 0)
        rw [zerI_set0] at hset
        have HST := Lib.hid hset
        have HRS := Lib.hid (hr.eff (F := (· = B)) ((Eff.refl _ _).setP i (.int .i64 0)) (fun k hk e => by have := (HGE.out k hk).2; omega))
        have HES := Lib.hid (he.setCell (p := ⟨B, i, none⟩) (fun h => by simp only at h; omega) (.int .i64 0))
        have HRDS := Lib.hid (hrd.eff (F := (· = B)) ((Eff.refl _ _).setP i (.int .i64 0)) (fun b o l c' e hbB => (by injection e with e1; have h9 := (HGE.out b (.inr (by rw [e1]; rfl))).2; omega)))
        clear hget hset hr he ho hrd
        go_wp2_with fail
        refine C4.mono ?_
        rintro e w' ⟨rfl, rfl⟩
        go_wp2
        go_roundw
        case rel => exact ⟨i + 1, by go_num, by omega, by first | rfl | simp, by first | rfl | (simp; rfl) | decide, HST.out, HRS.out, HES.out, HRDS.out⟩
        case measure => simp [intOf]; omega
      · obtain rfl : i = n := by omega
        go_wp2_with fail
        refine (len_any 0 _ (by omega) (by omega)).mono ?_
        rintro e w' ⟨rfl, rfl⟩
        rw [show ((Lib.bitLen (0 : Int).toNat : Nat) : Int) = 0 by decide]
        have HM := Lib.hid (hr.move K1 hK1l)
        have HEP := Lib.hid (he.setP 0 (.int .i64 ((K1 : Nat) : Int)))
        have HOP := Lib.hid (ho.setOther (p := ⟨p, 0, none⟩) (ho.ne_type hr.blk (by decide)) (.int .i64 ((K1 : Nat) : Int)))
        have c0 := hr.c0
        have hf0 := hr.fz 0
        clear hr he ho hrd
        go_wp2_with fail
        refine C4.mono ?_
        rintro e w' ⟨rfl, rfl⟩
        go_wp2
        go_ret2
        refine LOut.ok HU.out rfl ?_ ?_ HEP.out
        · rw [zerI_eq]; exact HOP.out
        · rw [show k + (c + 1) = K1 by have := HK.out; omega]; exact HM.out

theorem if_toI {C : Prop} [Decidable C] (U : List Nat) (c j : Nat) : toI (match (if C then .ok (U, j) else .error 4 : Except Nat (List Nat × Nat)) with
    | .error e => .error e
    | .ok (r, j) => .ok (r, c + j)) = if C then .ok (natI U, c + j) else .error 4 := by
  by_cases h : C
  · rw [if_pos h, if_pos h]; rfl
  · rw [if_neg h, if_neg h]; rfl
/-- The list of ints that packed reads. -/
theorem rpck0_out (w : World) (base p : Nat) (v : Value) (bs : List UInt8) (k : Nat) (h : Rdr w base p v bs k) (hb : base ≤ w.heap.size) (EA : Nat → Addr) (hE : RErr w EA) (hG : GLow base) (most : Int) (hm0 : -9223372036854775808 ≤ most) (hm1 : most ≤ 9223372036854775807) :
    Calls Tryd.prog 72 #[.pointer (some ⟨p, 0, none⟩), .int .i64 most] w (LOut false w base p v bs k EA (toI (getPk most (bs.drop k)))) := by
  cases hres : getUpto most (bs.drop k) with
  | error n => exact rpck0_early w base p v bs k h hb EA hE hG most hm0 hm1 (.inl ⟨n, hres⟩)
  | ok y =>
    obtain ⟨n, c⟩ := y
    by_cases hn0 : n = 0
    · exact rpck0_early w base p v bs k h hb EA hE hG most hm0 hm1 (.inr ⟨n, c, hres, .inl hn0⟩)
    · by_cases hsh : bs.length ≤ k + c
      · exact rpck0_early w base p v bs k h hb EA hE hG most hm0 hm1 (.inr ⟨n, c, hres, .inr (.inl hsh)⟩)
      · have hlt : k + c < bs.length := by omega
        have hdr : bs.drop (k + c) = bs[k + c] :: bs.drop (k + c + 1) := List.drop_eq_getElem_cons hlt
        have hpk : getPk most (bs.drop k) = match getPB n (bs.drop (k + c)) with
          | .error e => .error e
          | .ok (r, j) => .ok (r, c + j) := by
          unfold getPk; rw [hres]; simp only [if_neg hn0, List.drop_drop]
          cases getPB n (bs.drop (k + c)) with
          | error e => rfl
          | ok y => rfl
        by_cases hbad : (63 < bs[k + c].toNat ∨ (bs[k + c].toNat = 0 ∧ 65536 < n)) ∨ (0 < bs[k + c].toNat ∧ bs[k + c].toNat ≤ 63 ∧ (bs.drop (k + c + 1)).length * 8 / bs[k + c].toNat < n)
        · exact rpck0_early w base p v bs k h hb EA hE hG most hm0 hm1 (.inr ⟨n, c, hres, .inr (.inr ⟨_, _, hdr, hbad⟩)⟩)
        · have h63 : bs[k + c].toNat ≤ 63 := by
            rcases Nat.lt_or_ge 63 bs[k + c].toNat with h1 | h1
            · exact absurd (.inl (.inl h1)) hbad
            · exact h1
          have hgb : getPB n (bs.drop (k + c)) = if widL (unpack bs[k + c].toNat n (leN ((bs.drop (k + c + 1)).take ((n * bs[k + c].toNat + 7) / 8)))) = bs[k + c].toNat ∧ leN ((bs.drop (k + c + 1)).take ((n * bs[k + c].toNat + 7) / 8)) / 2 ^ (n * bs[k + c].toNat) = 0
              then .ok (unpack bs[k + c].toNat n (leN ((bs.drop (k + c + 1)).take ((n * bs[k + c].toNat + 7) / 8))), 1 + (n * bs[k + c].toNat + 7) / 8) else .error 4 := by
            rw [hdr, getPB, if_neg (fun h1 => hbad (.inl h1)), if_neg (fun h1 => hbad (.inr ⟨h1.1, h63, h1.2⟩))]
          rcases Nat.eq_zero_or_pos bs[k + c].toNat with hz | hpos
          · have hn65 : n ≤ 65536 := by
              rcases Nat.lt_or_ge 65536 n with h1 | h1
              · exact absurd (.inl (.inr ⟨hz, h1⟩)) hbad
              · exact h1
            refine rpck0_zero w base p v bs k h hb EA hE hG most hm0 hm1 n c (k + c + 1) hres (by omega) hlt hz hn65 rfl ?_
            rw [hpk, hgb, hz]
            have e0 : leN ((bs.drop (k + c + 1)).take ((n * 0 + 7) / 8)) = 0 := by rw [Nat.mul_zero, show (0 + 7) / 8 = 0 by decide, List.take_zero]; rfl
            have h0 := widL_le (l := unpack 0 n 0) (k := 0) (fun x hx => (by have h1 := unpack_lt 0 n 0 x hx; have h2 : x = 0 := (by omega); rw [h2]; decide))
            have hc : widL (unpack 0 n 0) = 0 ∧ 0 / 2 ^ (n * 0) = 0 := ⟨by omega, by simp⟩
            rw [e0, if_pos hc]
            simp [toI]
          · have hfit : ¬ (bs.length - (k + c + 1)) * 8 / bs[k + c].toNat < n := fun h1 => hbad (.inr ⟨hpos, h63, by rw [List.length_drop]; exact h1⟩)
            have hsz := packed_size hpos hfit
            refine rpck0_bits w base p v bs k h hb EA hE hG most hm0 hm1 n c _ (k + c + 1) _ _ hres (by omega) hlt rfl h63 hpos rfl rfl (by omega) hfit rfl ?_
            rw [hpk, hgb]
            exact if_toI _ _ _
set_option maxRecDepth 100000 in
theorem rpck_out (w : World) (base p : Nat) (v : Value) (bs : List UInt8) (k : Nat) (h : Rdr w base p v bs k) (hb : base ≤ w.heap.size) (EA : Nat → Addr) (hE : RErr w EA) (hG : GLow base) (most : Int) (hm0 : -9223372036854775808 ≤ most) (hm1 : most ≤ 9223372036854775807) :
    Calls Tryd.prog 61 #[.pointer (some ⟨p, 0, none⟩), .int .i64 most] w (LOut true w base p v bs k EA (toI (getPk most (bs.drop k)))) := by
  have C1 := rpck0_out w base p v bs k h hb EA hE hG most hm0 hm1
  have hc0 := h.c0
  have hle := h.le
  cases hres : toI (getPk most (bs.drop k)) with
  | error n =>
    have HR := Lib.hid hres
    clear hres
    go_enter Tryd.func61, Tryd.ntmps61
    go_wp2_with fail
    refine C1.mono ?_
    rintro e w' ⟨h1, _⟩
    obtain ⟨rfl, ⟨k', _, hr⟩, he⟩ := h1 n HR.out
    have hf := hr.fz 0
    have hcc := hr.c0
    have HM := Lib.hid (hr.move k hle)
    have HF := Lib.hid (he.setP 0 (.int .i64 (k : Nat)))
    clear hr he h1 C1
    unfold errV
    go_wp2
    go_ret2
    exact LOut.err rfl rfl (fun _ => rfl) HM.out HF.out
  | ok x =>
    obtain ⟨x, n⟩ := x
    have HR := Lib.hid hres
    clear hres
    go_enter Tryd.func61, Tryd.ntmps61
    go_wp2_with fail
    refine C1.mono ?_
    rintro e w' ⟨_, h1⟩
    obtain ⟨v', rfl, ho, hr, he⟩ := h1 x n HR.out
    obtain ⟨a1, n1, c1, rfl⟩ := own_sl ho
    clear h1 C1
    go_wp2
    go_ret2
    exact LOut.ok rfl rfl ho hr he
end Go.Proofs.YthnpbfadblcicaaDoor
