/- posts: Skip; the document's Skips; skip entries compared. -/
import Derived.Test.YthnpbfadblcicaaDoorZG8
import Derived.Test.YthnpbfadblcicaaDoorZPostO
import Derived.Test.YthnpbfadblcicaaDoorZG5
import Derived.Handy
import Derived.Laws.StructEq
namespace Go.Proofs.YthnpbfadblcicaaDoor
set_option linter.unusedVariables false
open Go.ChangeShapes Go.WideShapes Go.ChangeAt Go.RowKit

def skEq (x y : SkV) : Bool := (x.last == y.last) && (((x.docs : Int) == y.docs) && (((x.at_ : Int) == y.at_) && ((x.size : Int) == y.size)))
theorem skEq_self (x : SkV) : skEq x x = true := by simp [skEq]
def skZ : SkV := ⟨0, 0, 0, 0⟩
theorem eql_sk (w : World) (x y : SkV) : (binOp .eql 45 (.agg #[.int .i64 x.last, .int .i64 (x.docs : Nat), .int .i64 (x.at_ : Nat), .int .i64 (x.size : Nat)]) (.agg #[.int .i64 y.last, .int .i64 (y.docs : Nat), .int .i64 (y.at_ : Nat), .int .i64 (y.size : Nat)])).run Tryd.prog w = .ok (.bool (skEq x y)) w := by
  have hS : Tryd.prog.underlying 45 = some (.struct (Tryd.prog.fieldsOf 45)) := by kernel_rfl
  have hp : Tryd.prog.stoodInHeld 45 = false := by kernel_rfl
  rw [run_eql_struct, show (10000 : Nat) = 9998 + 1 + 1 from rfl, run_equalIn_agg w _ 45 _ _ hS hp]
  obtain ⟨k, d, t, a⟩ := x
  obtain ⟨k', d', t', a'⟩ := y
  unfold skEq
  simp [go_sem, Tryd.underlying45, Program.fieldsOf]
  repeat' split
  all_goals simp_all
theorem guard_sk : Tryd.prog.eqGuardType Tryd.prog.depth 45 = false := by kernel_rfl
theorem eql_skz (w : World) : (binOp .eql 45 (.agg #[.int .i64 0, .int .i64 0, .int .i64 0, .int .i64 0]) (.agg #[.int .i64 0, .int .i64 0, .int .i64 0, .int .i64 0])).run Tryd.prog w = .ok (.bool true) w := eql_sk w skZ skZ
set_option maxRecDepth 100000 in
theorem skip_in (w : World) (p : Nat) (B : Nat) (im sv : Value) (b : List UInt8) (n t : Nat) (S : List SkV) (h : ListAt w B p im sv b n t S) (hl : S.length ≤ 2000000000) (k : Nat) (hk : k < S.length) :
    Calls Tryd.prog 19 #[.pointer (some ⟨p, 0, none⟩), .int .i64 (k : Nat)] w fun e w' => e = .returned (.tuple #[.agg #[.int .i64 S[k].last, .int .i64 (S[k].docs : Nat), .int .i64 (S[k].at_ : Nat), .int .i64 (S[k].size : Nat)], .bool true]) ∧ Below w.heap.size w w' := by
  have h0 : ListAt (w.alloc (.cells #[.int .i64 0, .int .i64 0, .int .i64 0, .int .i64 0] 45)) B p im sv b n t S := h.below ((Below.refl _ w).alloc (Nat.le_refl _) _) (Nat.le_refl _)
  obtain ⟨sa, sc, rfl⟩ := h0.sk.sl
  obtain ⟨g, rfl, -, -, hc⟩ := h0.sk.at_ k hk
  obtain ⟨x, hx⟩ : ∃ x, S[k] = x := ⟨_, rfl⟩
  rw [hx] at hc ⊢
  obtain ⟨la, dc, at_, sz⟩ := x
  have p3 : (w.alloc (.cells #[.int .i64 0, .int .i64 0, .int .i64 0, .int .i64 0] 45)).cell? ⟨p, 3, none⟩ = some (.slice (some ⟨g, 0, none⟩) S.length sc) := blk_cell h0.blk 3
  have c0 : (w.alloc (.cells #[.int .i64 0, .int .i64 0, .int .i64 0, .int .i64 0] 45)).cell? ⟨g, k * 4, none⟩ = some (.int .i64 la) := hc 0 _ rfl
  have c1 : (w.alloc (.cells #[.int .i64 0, .int .i64 0, .int .i64 0, .int .i64 0] 45)).cell? ⟨g, k * 4 + 1, none⟩ = some (.int .i64 (dc : Nat)) := hc 1 _ rfl
  have c2 : (w.alloc (.cells #[.int .i64 0, .int .i64 0, .int .i64 0, .int .i64 0] 45)).cell? ⟨g, k * 4 + 2, none⟩ = some (.int .i64 (at_ : Nat)) := hc 2 _ rfl
  have c3 : (w.alloc (.cells #[.int .i64 0, .int .i64 0, .int .i64 0, .int .i64 0] 45)).cell? ⟨g, k * 4 + 3, none⟩ = some (.int .i64 (sz : Nat)) := hc 3 _ rfl
  have i1 : (k : Int) < (S.length : Int) := by omega
  have t1 : decide ((k : Int) < 0) = false := decide_eq_false (by omega)
  have t2 : decide (S.length ≤ k) = false := decide_eq_false (by omega)
  clear h h0 hc hx
  simp only
  go_enter Tryd.func19, Tryd.ntmps19
  go_wp2
  go_returns
  exact ⟨rfl, (Below.refl _ _).alloc (Nat.le_refl _) _⟩
set_option maxRecDepth 100000 in
theorem skip_out (w : World) (p : Nat) (B : Nat) (im sv : Value) (b : List UInt8) (n t : Nat) (S : List SkV) (h : ListAt w B p im sv b n t S) (hl : S.length ≤ 2000000000) (k : Int) (hk : k < 0 ∨ (S.length : Int) ≤ k) :
    Calls Tryd.prog 19 #[.pointer (some ⟨p, 0, none⟩), .int .i64 k] w fun e w' => e = .returned (.tuple #[.agg #[.int .i64 0, .int .i64 0, .int .i64 0, .int .i64 0], .bool false]) ∧ Below w.heap.size w w' := by
  have h0 : ListAt (w.alloc (.cells #[.int .i64 0, .int .i64 0, .int .i64 0, .int .i64 0] 45)) B p im sv b n t S := h.below ((Below.refl _ w).alloc (Nat.le_refl _) _) (Nat.le_refl _)
  obtain ⟨sa, sc, rfl⟩ := h0.sk.sl
  have p3 : (w.alloc (.cells #[.int .i64 0, .int .i64 0, .int .i64 0, .int .i64 0] 45)).cell? ⟨p, 3, none⟩ = some (.slice sa S.length sc) := blk_cell h0.blk 3
  clear h h0
  by_cases h0 : k < 0
  · have t1 : decide (k < 0) = true := decide_eq_true h0
    clear hk
    go_enter Tryd.func19, Tryd.ntmps19
    go_wp2
    go_returns
    exact ⟨rfl, (Below.refl _ _).alloc (Nat.le_refl _) _⟩
  · have t1 : decide (k < 0) = false := decide_eq_false h0
    have t2 : decide ((S.length : Int) ≤ k) = true := decide_eq_true (by omega)
    clear hk
    go_enter Tryd.func19, Tryd.ntmps19
    go_wp2
    go_returns
    exact ⟨rfl, (Below.refl _ _).alloc (Nat.le_refl _) _⟩
theorem chp_get : ∀ (k : Nat) (l : List PostV) (h : k < (chp l).length), (chp l)[k] = (l.drop (16 * k)).take 16
  | 0, l, h => by
    have hne : l ≠ [] := fun e => by rw [e, chp_nil] at h; simp at h
    simp [chp_cons hne]
  | k + 1, l, h => by
    have hne : l ≠ [] := fun e => by rw [e, chp_nil] at h; simp at h
    have ih := chp_get k (l.drop 16) (by rw [chp_cons hne] at h; simpa using h)
    simp only [chp_cons hne, List.getElem_cons_succ]
    rw [ih, List.drop_drop]
    congr 2
    omega
theorem skV_shift : ∀ (cs : List (List PostV)) (base : Int) (q n i : Nat) (h : i < (skV base q cs).length) (h2 : i < (skV base (q + n) cs).length), (skV base (q + n) cs)[i] = ⟨((skV base q cs)[i]).last, ((skV base q cs)[i]).docs, ((skV base q cs)[i]).at_ + n, ((skV base q cs)[i]).size⟩
  | [], _, _, _, i, h, _ => by simp [skV] at h
  | c :: r, base, q, n, 0, h, h2 => rfl
  | c :: r, base, q, n, i + 1, h, h2 => by
    have ih := skV_shift r (lastV base c) (q + (blockB base c).length) n i (by simpa [skV] using h) (by rw [skV_len]; simpa [skV, skV_len] using h)
    simp only [skV, List.getElem_cons_succ]
    rw [← ih]
    congr 2
    omega
theorem bodyV_take (base : Int) : ∀ (cs : List (List PostV)) (i : Nat) (h : i < cs.length), (bodyV (blksV base (cs.take (i + 1)))).length = (bodyV (blksV base (cs.take i))).length + (blockB (lastV base (cs.take i).flatten) cs[i]).length := by
  intro cs
  induction cs generalizing base with
  | nil => intro i h; simp at h
  | cons c r ih =>
    intro i h
    cases i with
    | zero => simp [blksV, bodyV, lastV]
    | succ i =>
      have h9 := ih (lastV base c) i (by simpa using h)
      simp only [List.take_succ_cons, blksV, List.flatten_cons, List.getElem_cons_succ, lastV_append]
      unfold bodyV at h9 ⊢
      rw [List.flatMap_cons, List.flatMap_cons, List.length_append, List.length_append, h9]
      omega
/-- What each entry tells. -/
theorem skV_get : ∀ (cs : List (List PostV)) (base : Int) (q i : Nat) (h : i < (skV base q cs).length) (h2 : i < cs.length), (skV base q cs)[i] = ⟨lastV base (cs.take (i + 1)).flatten, cs[i].length, q + (bodyV (blksV base (cs.take i))).length, (blockB (lastV base (cs.take i).flatten) cs[i]).length⟩
  | [], _, _, i, h, _ => by simp [skV] at h
  | c :: r, base, q, 0, h, h2 => by simp [skV, blksV, bodyV, lastV]
  | c :: r, base, q, i + 1, h, h2 => by
    have ih := skV_get r (lastV base c) (q + (blockB base c).length) i (by simpa [skV] using h) (by simpa using h2)
    simp only [skV, List.getElem_cons_succ]
    rw [ih]
    simp only [List.take_succ_cons, blksV, List.flatten_cons, lastV_append]
    unfold bodyV
    rw [List.flatMap_cons, List.length_append]
    congr 1
    simp only
    omega
theorem bodyV_mono (base : Int) (cs : List (List PostV)) (i : Nat) : (bodyV (blksV base (cs.take i))).length ≤ (bodyV (blksV base cs)).length := by
  induction cs generalizing base i with
  | nil => simp
  | cons c r ih =>
    cases i with
    | zero => simp [blksV, bodyV]
    | succ i =>
      have h9 := ih (lastV base c) i
      simp only [List.take_succ_cons, blksV]
      unfold bodyV at h9 ⊢
      rw [List.flatMap_cons, List.flatMap_cons, List.length_append, List.length_append]
      omega
theorem sk_at_le {base : Int} {q : Nat} {cs : List (List PostV)} {i : Nat} (h : i < (skV base q cs).length) : ((skV base q cs)[i]).at_ ≤ q + (bodyV (blksV base cs)).length := by
  rw [skV_get cs base q i h (by rwa [skV_len] at h)]
  have := bodyV_mono base cs i
  simp only
  omega
set_option maxRecDepth 100000 in
set_option maxHeartbeats 4000000 in
/-- The document's Skips. -/
theorem rska_any (w : World) (a : Option Addr) (n c : Nat) (ps : List PostV) (hr : RdPost w a n ps) (hnc : n ≤ c) (hf : FitP ps) (ok : okV (-1) ps) (hl : ps.length ≤ 1048576) (hT : totalV ps ≤ 20000000) :
    Calls Tryd.prog 14 #[.slice a n c] w fun e w' => ∃ A N C, e = .returned (.slice A N C) ∧ RowS w' w.heap.size (.slice A N C) (skV (-1) (headL ps) (chp ps)) ∧ Below w.heap.size w w' := by
  have E2 := rskips_any w a n c ps hr hnc hf ok hl hT
  have hsl := sk_len_le _ (-1) 0 ps (Nat.le_refl _)
  have hsk := sk_ok _ (-1) 0 ps (Nat.le_refl _) hf ok (by omega) hT
  have hhd := hdS_le (-1) _ hsk (by omega)
  have u1 := (uvar_le ps.length (by omega)).2
  have u2 := (uvar_le (totalV ps) (by omega)).2
  have hHL : ((uvar ps.length ++ uvar (totalV ps)) ++ hdS (-1) (skV (-1) 0 (chp ps))).length = headL ps := by
    rw [hdS_sk]; unfold headL; simp only [List.length_append]
  have hHb : headL ps ≤ 100000000 := by rw [← hHL, List.length_append, List.length_append]; omega
  obtain ⟨-, hBV⟩ := blks_le _ (-1) ps (Nat.le_refl _) hf ok (by omega) (by omega) (by omega)
  have hat : ∀ (i : Nat) (h : i < (skV (-1) 0 (chp ps)).length), ((skV (-1) 0 (chp ps))[i]).at_ ≤ 2000000000 := fun i h => by
    have := sk_at_le h
    omega
  obtain ⟨S0, hS0⟩ : ∃ S0, skV (-1) 0 (chp ps) = S0 := ⟨_, rfl⟩
  obtain ⟨S1, hS1⟩ : ∃ S1, skV (-1) (headL ps) (chp ps) = S1 := ⟨_, rfl⟩
  have hl01 : S1.length = S0.length := by rw [← hS0, ← hS1, skV_len, skV_len]
  obtain ⟨HL, hHLe⟩ : ∃ HL, headL ps = HL := ⟨_, rfl⟩
  have hsh : ∀ (i : Nat) (h : i < S0.length) (h2 : i < S1.length), S1[i] = ⟨S0[i].last, S0[i].docs, S0[i].at_ + HL, S0[i].size⟩ := by
    intro i h h2
    subst hS0 hS1 hHLe
    have h9 := skV_shift (chp ps) (-1) 0 (headL ps) i h (by rw [Nat.zero_add]; exact h2)
    simpa using h9
  have hat2 : ∀ (i : Nat) (h : i < S0.length), S0[i].at_ ≤ 2000000000 := by subst hS0; exact hat
  clear hat
  simp only [hS0, hS1] at E2 hsl hsk hhd hHL ⊢
  rw [hHLe] at hHL hHb
  have E3 : ∀ w2 A N C, RdPost w2 a n ps → RowS w2 w.heap.size (.slice A N C) S0 → _ := fun w2 A N C h1 h2 => rhead_any w2 a n c ps h1 hl hT _ A N C S0 h2 hsk (by omega)
  have HE3 := Lib.hid E3
  have HR := Lib.hid hr
  have HSH := Lib.hid hsh
  have HAT := Lib.hid hat2
  clear hr hf ok hsk E3 hsh hat2 hhd hS0 hS1 hHLe
  go_enter Tryd.func14, Tryd.ntmps14
  go_wp2_with fail
  with_reducible refine E2.mono ?_
  rintro e w2 ⟨A, N, C, A2, N2, C2, rfl, hs2, -, hb2⟩
  clear E2
  have C3 := HE3.out w2 A N C (HR.out.below hb2 (Nat.le_refl _)) hs2
  have HS2 := Lib.hid hs2
  have HB2 := Lib.hid hb2
  clear hs2 hb2
  go_wp2_with fail
  with_reducible refine C3.mono ?_
  rintro e w3 ⟨v3, rfl, ho3, hb3⟩
  clear C3
  obtain ⟨A3, N3, K3, rfl⟩ := own_sl ho3
  have hl3 := ho3.len
  rw [bytesV_length, hHL] at hl3
  clear ho3
  subst hl3
  obtain rfl : N = S0.length := by obtain ⟨_, _, e⟩ := HS2.out.sl; injection e
  have hs3 := HS2.out.below hb3 (Nat.le_refl _)
  have hb23 := HB2.out.trans (hb3.mono HB2.out.size)
  have HS3 := Lib.hid hs3
  have HB3 := Lib.hid hb23
  clear hs3 hb3 hb23 HS2 HB2 hHL
  go_wp2
  go_loopw [18] (fun s18 wr => ∃ i : Nat, s18 = .int .i64 i ∧ i ≤ S0.length ∧ RowS wr w.heap.size (.slice A S0.length C) (S1.take i ++ S0.drop i) ∧ Below w.heap.size w wr) (fun s18 _ => S0.length - (intOf s18).toNat)
  case atStart => exact ⟨0, rfl, Nat.zero_le _, by rw [List.take_zero, List.drop_zero, List.nil_append]; exact HS3.out, HB3.out⟩
  case round =>
    clear HS3 HB3
    obtain ⟨i, rfl, hi, hrow, hb⟩ := hrel
    by_cases hlt : i < S0.length
    · have hil : (S1.take i).length = i := by rw [List.length_take]; omega
      have h9 := HSH.out i hlt (by omega)
      have h10 := HAT.out i hlt
      have htk : S1.take (i + 1) = S1.take i ++ [S1[i]'(by omega)] := List.take_succ_eq_append_getElem (by omega)
      rw [List.drop_eq_getElem_cons hlt] at hrow
      obtain ⟨x, hx⟩ : ∃ x, S0[i] = x := ⟨_, rfl⟩
      rw [hx] at hrow h9 h10
      obtain ⟨la, dc, at_, sz⟩ := x
      simp only at h9 h10
      obtain ⟨g, rfl, hg1, hg2, hc⟩ := hrow.at_ i (by rw [List.length_append, hil]; simp)
      have hgi : (S1.take i ++ (⟨la, dc, at_, sz⟩ : SkV) :: S0.drop (i + 1))[i]'(by rw [List.length_append, hil]; simp) = ⟨la, dc, at_, sz⟩ := by
        rw [List.getElem_append_right (by omega)]
        simp [hil]
      rw [hgi] at hc
      have c2 : wr.cell? ⟨g, i * 4 + 2, none⟩ = some (.int .i64 (at_ : Nat)) := hc 2 _ rfl
      have hst := hrow.setAt (at_ + N3)
      rw [hil] at hst
      have hbs : Below w.heap.size w (wr.setCell ⟨g, i * 4 + 2, none⟩ (.int .i64 ((at_ + N3 : Nat) : Int))) := hb.setCell (p := ⟨g, i * 4 + 2, none⟩) hg1 _
      have hfr := hrow.frozen (i * 4 + 2)
      rw [show S1.take i ++ (⟨la, dc, at_ + N3, sz⟩ : SkV) :: S0.drop (i + 1) = S1.take (i + 1) ++ S0.drop (i + 1) by rw [htk, h9]; simp] at hst
      have s1 : IntKind.i64.wrap ((at_ : Int) + (N3 : Int)) = ((at_ + N3 : Nat) : Int) := by rw [IntKind.wrap_i64]; omega
      have i1 : (i : Int) < (S0.length : Int) := by omega
      have HST := Lib.hid hst
      have HBS := Lib.hid hbs
      clear hst hbs hrow hb hc hx h9 h10 htk hgi hil
      go_wp2
      go_roundw
      case rel => exact ⟨i + 1, by go_num, by omega, HST.out, HBS.out⟩
      case measure => simp [intOf]; omega
    · obtain rfl : i = S0.length := by omega
      have i1 : ¬ ((S0.length : Int) < (S0.length : Int)) := by omega
      rw [List.drop_length, List.append_nil, List.take_of_length_le (by omega)] at hrow
      have HROW := Lib.hid hrow
      have HB := Lib.hid hb
      clear hrow hb
      go_wp2
      go_ret
      exact ⟨_, _, _, rfl, HROW.out, HB.out⟩
end Go.Proofs.YthnpbfadblcicaaDoor
