/- codec.Reader: Rising. -/
import Derived.Test.YtmmflhippbegaaaDoorRWord
import Derived.Test.YtmmflhippbegaaaDoorWList
namespace Go.Proofs.YtmmflhippbegaaaDoor
set_option linter.unusedVariables false
open Go.ChangeShapes Go.WideShapes Go.ChangeAt Go.RowKit

def contR {α : Type} (acc : List α) (used : Nat) : Except Nat (List α × Nat) → Except Nat (List α × Nat)
  | .error e => .error e
  | .ok (r, j) => .ok (acc ++ r, used + j)
/-- What a call that reads a list of ints answers; on an error the Reader stands at k or, if 'stay' is false, somewhere. -/
def LOut (stay : Bool) (w : World) (base p : Nat) (v : Value) (bs : List UInt8) (k : Nat) (EA : Nat → Addr) (res : Except Nat (List Int × Nat)) (e : Ending) (w' : World) : Prop :=
  (∀ n, res = .error n → e = .returned (.tuple #[.slice none 0 0, errV EA n]) ∧ (∃ k', (stay = true → k' = k) ∧ Rdr w' base p v bs k') ∧ Eff (· = p) w w') ∧
  (∀ x n, res = .ok (x, n) → ∃ v', e = .returned (.tuple #[v', .nilIface]) ∧ Own w' w.heap.size 3 v' (intL x) ∧ Rdr w' base p v bs (k + n) ∧ Eff (· = p) w w')
theorem LOut.err {stay : Bool} {w : World} {base p : Nat} {v : Value} {bs : List UInt8} {k : Nat} {EA : Nat → Addr} {res : Except Nat (List Int × Nat)} {e : Ending} {w' : World} {n k' : Nat}
    (hr : res = .error n) (he : e = .returned (.tuple #[.slice none 0 0, errV EA n])) (hk : stay = true → k' = k) (h1 : Rdr w' base p v bs k') (h2 : Eff (· = p) w w') : LOut stay w base p v bs k EA res e w' :=
  ⟨fun m hm => (by rw [hr] at hm; injection hm with hm; subst hm; exact ⟨he, ⟨k', hk, h1⟩, h2⟩), fun x m hm => (by rw [hr] at hm; cases hm)⟩
theorem LOut.ok {stay : Bool} {w : World} {base p : Nat} {v : Value} {bs : List UInt8} {k : Nat} {EA : Nat → Addr} {res : Except Nat (List Int × Nat)} {e : Ending} {w' : World} {x : List Int} {n : Nat} {v' : Value}
    (hr : res = .ok (x, n)) (he : e = .returned (.tuple #[v', .nilIface])) (ho : Own w' w.heap.size 3 v' (intL x)) (h1 : Rdr w' base p v bs (k + n)) (h2 : Eff (· = p) w w') : LOut stay w base p v bs k EA res e w' :=
  ⟨fun m hm => (by rw [hr] at hm; cases hm), fun y m hm => (by rw [hr] at hm; injection hm with hm; injection hm with h3 h4; subst h3 h4; exact ⟨v', he, ho, h1, h2⟩)⟩

theorem rs_sum (last : Int) (u : Nat) (h0 : -1 ≤ last) (h : (u : Int) ≤ 9223372036854775806 - last) : wrap64 (last + wrap64 ((u : Int) + 1)) = last + u + 1 := by
  simp only [wrap64]; omega
set_option maxRecDepth 100000 in
set_option maxHeartbeats 2000000 in
theorem rris0_out (w : World) (base p : Nat) (v : Value) (bs : List UInt8) (k : Nat) (h : Rdr w base p v bs k) (hb : base ≤ w.heap.size) (EA : Nat → Addr) (hE : RErr w EA) (hG : GLow base) (most : Int) (hm0 : -9223372036854775808 ≤ most) (hm1 : most ≤ 9223372036854775807) :
    Calls Tryd.prog 82 #[.pointer (some ⟨p, 0, none⟩), .int .i64 most] w (LOut false w base p v bs k EA (getRis most (bs.drop k))) := by
  have C1 := rupto_out w base p v bs k h EA hE hG most hm0 hm1
  have hp := h.hp
  have hsm := h.sm
  have HE := Lib.hid hE
  have HG := Lib.hid hG
  clear hE hG
  cases hres : getUpto most (bs.drop k) with
  | error n =>
    have hup : getRis most (bs.drop k) = .error n := by unfold getRis; rw [hres]
    have HR := Lib.hid hres
    have HU := Lib.hid hup
    clear hres hup
    go_enter Tryd.func82, Tryd.ntmps82
    go_wp2_with fail
    refine C1.mono ?_
    rintro e w' ⟨h1, _⟩
    obtain ⟨rfl, hr, he⟩ := h1 n HR.out
    unfold errV
    go_wp2
    go_ret2
    exact LOut.err HU.out rfl (fun h => by cases h) hr he
  | ok x =>
    obtain ⟨n, c⟩ := x
    obtain ⟨hgu, hnm⟩ := getUpto_len hres
    have hn64 := (getU_ok hgu).1
    have hup : getRis most (bs.drop k) = contR [] c (getR n (-1) (bs.drop (k + c))) := by
      unfold getRis; rw [hres]; simp only [List.drop_drop]
      cases getR n (-1) (bs.drop (k + c)) with
      | error e => rfl
      | ok y => simp [contR]
    have hn63 : (n : Int) ≤ 9223372036854775807 := by omega
    have HR := Lib.hid hres
    have HU := Lib.hid hup
    clear hres hup hgu
    go_enter Tryd.func82, Tryd.ntmps82
    go_wp2_with fail
    refine C1.mono ?_
    rintro e w1 ⟨_, h1⟩
    obtain ⟨rfl, hr1, he1⟩ := h1 n c HR.out
    clear h1 C1
    go_wp2
    go_loopw [8, 9, 22] (fun s8 s9 s22 wr => ∃ (i K : Nat) (acc : List Int) (last : Int), s22 = .int .i64 i ∧ i ≤ n ∧ s9 = .int .i64 last ∧ -1 ≤ last ∧ last ≤ 9223372036854775807 ∧ Own wr w.heap.size 3 s8 (intL acc) ∧ acc.length = i ∧ i ≤ K ∧ k ≤ K ∧ Rdr wr base p v bs K ∧ Eff (· = p) w wr ∧
        getRis most (bs.drop k) = contR acc (K - k) (getR (n - i) last (bs.drop K))) (fun _ _ s _ => n - (intOf s).toNat)
    case atStart => exact ⟨0, k + c, [], -1, rfl, Nat.zero_le _, rfl, by omega, by omega, own_nil _ _ _, rfl, by omega, by omega, hr1, he1, by rw [HU.out, Nat.add_sub_cancel_left]; rfl⟩
    case round =>
      clear hr1 he1
      obtain ⟨i, K, acc, last, rfl, hi, rfl, hl0, hl1, ho, hal, hiK, hkK, hr, he, heq⟩ := hrel
      have HEQ := Lib.hid heq
      clear heq
      have hE2 := HE.out.eff he HG.out (fun k hk => by subst hk; exact hp)
      have C2 := ruv_out wr base p v bs K hr EA hE2
      have hKl := hr.le
      by_cases hlt : i < n
      · obtain ⟨m, hm⟩ : ∃ m, n - i = m + 1 := ⟨n - i - 1, by omega⟩
        have hm2 : n - (i + 1) = m := by omega
        have heq := HEQ.out
        rw [hm, getR] at heq
        cases hg : getU (bs.drop K) with
        | error er =>
          rw [hg] at heq
          have HQ := Lib.hid heq
          have HGU := Lib.hid hg
          clear heq hg hm hm2
          go_wp2_with fail
          refine C2.mono ?_
          rintro e w2 ⟨h2, _⟩
          obtain ⟨rfl, hr2, he2⟩ := h2 er HGU.out
          unfold errV
          go_wp2
          go_ret2
          exact LOut.err HQ.out rfl (fun h => by cases h) hr2 (he.trans he2 (fun _ h _ => h))
        | ok y =>
          obtain ⟨u, c2⟩ := y
          have hu64 := (getU_ok hg).1
          have hc2 := getU_len hg
          rw [List.length_drop] at hc2
          rw [hg] at heq
          simp only at heq
          have HGU := Lib.hid hg
          clear hg
          by_cases hbig : 9223372036854775806 - last < u
          · rw [if_pos hbig] at heq
            have HQ := Lib.hid heq
            clear heq hm hm2
            have hm9 : last = 9223372036854775807 ∨ last < 9223372036854775807 := by omega
            rcases hm9 with hm9 | hm9
            · have t1 : (last == 9223372036854775807) = true := by simp; omega
              have HM9 := Lib.hid hm9
              clear hm9
              go_wp2_with fail
              refine C2.mono ?_
              rintro e w2 ⟨_, h2⟩
              obtain ⟨rfl, hr2, he2⟩ := h2 u c2 HGU.out
              have hl2 := (hE2.eff he2 HG.out (fun k hk => by subst hk; exact hp)).l
              unfold errV at hl2
              clear h2 C2
              go_wp2
              go_quiet (fail)
              go_wp2
              go_ret2
              exact LOut.err HQ.out rfl (fun h => by cases h) (hr2.drewN _) ((he.trans he2 (fun _ h _ => h)).drewN _)
            · have t1 : (last == 9223372036854775807) = false := by simp; omega
              have q1 : IntKind.u64.wrap (9223372036854775806 - last) = 9223372036854775806 - last := by rw [IntKind.wrap_u64]; omega
              have t2 : decide (9223372036854775806 - last < (u : Int)) = true := decide_eq_true hbig
              go_wp2_with fail
              refine C2.mono ?_
              rintro e w2 ⟨_, h2⟩
              obtain ⟨rfl, hr2, he2⟩ := h2 u c2 HGU.out
              have hl2 := (hE2.eff he2 HG.out (fun k hk => by subst hk; exact hp)).l
              unfold errV at hl2
              clear h2 C2
              go_wp2
              go_quiet (fail)
              go_wp2
              go_ret2
              exact LOut.err HQ.out rfl (fun h => by cases h) (hr2.drewN _) ((he.trans he2 (fun _ h _ => h)).drewN _)
          · rw [if_neg hbig] at heq
            have hq : getRis most (bs.drop k) = contR (acc ++ [last + u + 1]) (K + c2 - k) (getR m (last + u + 1) (bs.drop (K + c2))) := by
              rw [heq, List.drop_drop]
              cases getR m (last + u + 1) (bs.drop (K + c2)) with
              | error e => rfl
              | ok y => simp [contR]; omega
            have HQ := Lib.hid hq
            clear heq hq
            go_wp2_with fail
            refine C2.mono ?_
            rintro e w2 ⟨_, h2⟩
            obtain ⟨rfl, hr2, he2⟩ := h2 u c2 HGU.out
            have t1 : (last == 9223372036854775807) = false := by simp; omega
            have q1 : IntKind.u64.wrap (9223372036854775806 - last) = 9223372036854775806 - last := by rw [IntKind.wrap_u64]; omega
            have t2 : decide (9223372036854775806 - last < (u : Int)) = false := decide_eq_false (by omega)
            have hub : (u : Int) ≤ 9223372036854775806 - last := by omega
            have hsum := Lib.hid (rs_sum last u hl0 hub)
            have ho2 := ho.eff he2 (fun k hk e => by subst e; exact ho.ne_type hr.blk (by decide) hk)
            have hL : (intL acc).length < 1000000000000 := by rw [intL_length]; omega
            have hb2 : w.heap.size ≤ w2.heap.size := Nat.le_trans he.size he2.size
            have HE2 := Lib.hid (he.trans he2 (fun _ h _ => h))
            have HR2 := Lib.hid hr2
            obtain ⟨a8, n8, c8, rfl⟩ := own_sl ho2
            clear h2 C2 he2 hr2 ho
            go_upto_region 14 with fail
            rw [hsum.out]
            clear t1 q1 t2
            have hl2 : last + (u : Int) + 1 ≤ 9223372036854775807 := by omega
            go_wp2_with (at_builtin; with_reducible refine ap1' elInts rfl ho2 hL hb2 rfl _ _ rfl rfl rfl ?_)
            intro v3 w3 g1 g2 g3 g4
            have hr3 : Rdr w3 base p v bs (K + c2) := by
              refine HR2.out.eff (F := fun k => (Value.slice a8 n8 c8).ownBlock = some k) ⟨g4.os, g4.tape, g4.output, g4.size, fun k hk hn => g4.block k hk (fun e => hn e.symm)⟩ ?_
              rintro k (rfl | hk) h3
              · exact ho2.ne_type HR2.out.blk (by decide) h3
              · exact own_types ho2 HR2.out.own (by decide) h3 hk
            have he3 : Eff (· = p) w w3 := HE2.out.grown g4 (fun k hk hlt => by have := (ho2.lt k hk).1; omega)
            have ho3 : Own w3 w.heap.size 3 v3 (intL (acc ++ [last + u + 1])) := own_to g1 (by rw [intL_append]; rfl)
            have HR3 := Lib.hid hr3
            have HE3 := Lib.hid he3
            have HO3 := Lib.hid ho3
            clear g1 g2 g3 g4 hr3 he3 ho3 ho2
            go_wp2
            go_roundw
            case rel => exact ⟨i + 1, K + c2, acc ++ [last + u + 1], _, by go_num, by omega, rfl, by omega, hl2, HO3.out, by simp [hal], by omega, by omega, HR3.out, HE3.out, by rw [hm2]; exact HQ.out⟩
            case measure => simp [intOf]; omega
      · obtain rfl : i = n := by omega
        have heq := HEQ.out
        rw [Nat.sub_self, getR, contR] at heq
        have HQ := Lib.hid heq
        clear heq
        obtain ⟨a1, n1, c1, rfl⟩ := own_sl ho
        clear C2
        go_wp2
        go_ret2
        exact LOut.ok HQ.out rfl (by rw [List.append_nil]; exact ho) (by rw [Nat.add_zero, Nat.add_sub_cancel' hkK]; exact hr) he
set_option maxRecDepth 100000 in
theorem rris_out (w : World) (base p : Nat) (v : Value) (bs : List UInt8) (k : Nat) (h : Rdr w base p v bs k) (hb : base ≤ w.heap.size) (EA : Nat → Addr) (hE : RErr w EA) (hG : GLow base) (most : Int) (hm0 : -9223372036854775808 ≤ most) (hm1 : most ≤ 9223372036854775807) :
    Calls Tryd.prog 38 #[.pointer (some ⟨p, 0, none⟩), .int .i64 most] w (LOut true w base p v bs k EA (getRis most (bs.drop k))) := by
  have C1 := rris0_out w base p v bs k h hb EA hE hG most hm0 hm1
  have hc0 := h.c0
  have hle := h.le
  cases hres : getRis most (bs.drop k) with
  | error n =>
    have HR := Lib.hid hres
    clear hres
    go_enter Tryd.func38, Tryd.ntmps38
    go_wp2_with fail
    refine C1.mono ?_
    rintro e w' ⟨h1, _⟩
    obtain ⟨rfl, ⟨k', _, hr⟩, he⟩ := h1 n HR.out
    have hf := hr.fz 0
    have hcc := hr.c0
    have HM := Lib.hid (hr.move k hle)
    have HF := Lib.hid (he.setP 0 (.int .i64 (k : Nat)))
    clear hr he h1 C1
    unfold errV
    go_wp2
    go_ret2
    exact LOut.err rfl rfl (fun _ => rfl) HM.out HF.out
  | ok x =>
    obtain ⟨x, n⟩ := x
    have HR := Lib.hid hres
    clear hres
    go_enter Tryd.func38, Tryd.ntmps38
    go_wp2_with fail
    refine C1.mono ?_
    rintro e w' ⟨_, h1⟩
    obtain ⟨v', rfl, ho, hr, he⟩ := h1 x n HR.out
    obtain ⟨a1, n1, c1, rfl⟩ := own_sl ho
    clear h1 C1
    go_wp2
    go_ret2
    exact LOut.ok rfl rfl ho hr he
end Go.Proofs.YtmmflhippbegaaaDoor
