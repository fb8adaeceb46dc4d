/- posts: Decode. -/
import Derived.Test.YthnpbfadblcicaaDoorZBlock
namespace Go.Proofs.YthnpbfadblcicaaDoor
set_option linter.unusedVariables false
open Go.ChangeShapes Go.WideShapes Go.ChangeAt Go.RowKit

/-- What Decode answers and leaves. -/
def DecPost (w : World) (EA : Nat → Addr) (b : List UInt8) (e : Ending) (w' : World) : Prop :=
  (∀ r, openV b = some r → ∃ A N C vs, e = .returned (.tuple #[.slice A N C, .nilIface]) ∧ RowP w' w.heap.size (.slice A N C) r.bl.flatten vs) ∧
  (openV b = none → e = .returned (.tuple #[.slice none 0 0, errV EA 10])) ∧ Below w.heap.size w w'
set_option maxRecDepth 100000 in
set_option maxHeartbeats 4000000 in
theorem dec_any (w : World) (a : Option Addr) (nb cb : Nat) (b : List UInt8) (hr : Rd w (.slice a nb cb) (bytesV b)) (hb : b.length ≤ 1000000000) (hfl : ∀ r, openV b = some r → r.bl.flatten.length ≤ 1000000000) (EA : Nat → Addr) (hS : Sent w EA) :
    Calls Tryd.prog 22 #[.slice a nb cb] w (DecPost w EA b) := by
  have C1 := open_any w a nb cb b hr hb EA hS
  have HS := Lib.hid hS
  clear hr hS
  cases ho : openV b with
  | none =>
    have HO := Lib.hid ho
    clear ho hfl
    go_enter Tryd.func22, Tryd.ntmps22
    go_wp2_with fail
    with_reducible refine C1.mono ?_
    rintro e w1 ⟨-, h1, hb1⟩
    clear C1
    obtain rfl := h1 HO.out
    have HB1 := Lib.hid hb1
    clear h1 hb1
    unfold errV
    go_wp2
    go_ret2
    exact ⟨fun r hr => (by rw [HO.out] at hr; cases hr), fun _ => rfl, HB1.out⟩
  | some r =>
    have hok := blkOk ho hb
    have hfl' := hfl r ho
    have HO := Lib.hid ho
    clear ho hfl
    go_enter Tryd.func22, Tryd.ntmps22
    go_wp2_with fail
    with_reducible refine C1.mono ?_
    rintro e w1 ⟨h1, -, hb1⟩
    clear C1
    obtain ⟨p, im, sv, rfl, hl1⟩ := h1 r HO.out
    obtain ⟨sa, sc, rfl⟩ := hl1.sk.sl
    obtain ⟨n, t, S, cs⟩ := r
    simp only at hl1 hok hfl'
    have p3 : w1.cell? ⟨p, 3, none⟩ = some (.slice sa S.length sc) := blk_cell hl1.blk 3
    have hsl := hok.sl
    have hcl := hok.len
    have hop : OpS w w1 p im (.slice sa S.length sc) b n t S := ⟨hl1, hb1⟩
    have HOP := Lib.hid hop
    have HOK := Lib.hid hok
    have HFL := Lib.hid hfl'
    have HCL := Lib.hid hcl
    clear h1 hb1 hl1 hop hok hfl' hcl
    go_wp2
    clear p3
    go_loopw [6, 21] (fun s6 s21 wr => ∃ (k : Nat) (A : Option Addr) (N C : Nat) (vs : Nat → Value), s6 = .slice A N C ∧ s21 = .int .i64 (k : Nat) ∧ k ≤ S.length ∧ RowP wr w.heap.size (.slice A N C) (cs.take k).flatten vs ∧ OpS w wr p im (.slice sa S.length sc) b n t S) (fun _ s21 _ => S.length - (intOf s21).toNat)
    case atStart => exact ⟨0, _, _, _, _, rfl, rfl, Nat.zero_le _, by rw [List.take_zero]; exact RowP.nil _ _, HOP.out⟩
    case round =>
      clear HOP
      obtain ⟨k, A, N, C, vs, rfl, rfl, hk, hrow, hop⟩ := hrel
      by_cases hlt : k < S.length
      · have i1 : (k : Int) < (S.length : Int) := by omega
        have hk2 : k < cs.length := by rw [HCL.out]; exact hlt
        have C2 := block_any wr p im sa sc b n t S cs _ hop.l HOK.out hb k hlt hk2 EA (HS.out.below hop.b)
        have htk : (cs.take (k + 1)).flatten = (cs.take k).flatten ++ cs[k] := by
          rw [List.take_succ_eq_append_getElem hk2, List.flatten_append]; simp
        have hlen : (cs.take k).flatten.length + cs[k].length ≤ 1000000000 := by
          have h1 := HFL.out
          have h2 : cs.flatten.length = (cs.take (k + 1)).flatten.length + (cs.drop (k + 1)).flatten.length := by
            rw [← List.length_append, ← List.flatten_append, List.take_append_drop]
          rw [htk, List.length_append] at h2
          omega
        obtain ⟨pk, hpk⟩ : ∃ pk, cs[k] = pk := ⟨_, rfl⟩
        rw [hpk] at C2 htk hlen
        obtain ⟨D, hD⟩ : ∃ D, (cs.take k).flatten = D := ⟨_, rfl⟩
        rw [hD] at hrow htk hlen
        have HROW := Lib.hid hrow
        have HOP := Lib.hid hop
        have HTK := Lib.hid htk
        have HLEN := Lib.hid hlen
        clear hrow hop htk hlen hpk hD hk2
        go_wp2_with fail
        with_reducible refine C2.mono ?_
        rintro e w2 ⟨A2, N2, C2', vs2, rfl, hrow2, hb2⟩
        clear C2
        have hrowA := HROW.out.below hb2 (Nat.le_refl _)
        have hopA := HOP.out.step hb2
        have hsep : ∀ i l q, i < D.length → l < pk.length → (vs i).ownBlock = some q → (vs2 l).ownBlock ≠ some q := fun i l q hi hl h1 h2 => by
          have g1 := ((HROW.out.own i hi).lt q h1).2
          have g2 := ((hrow2.own l hl).lt q h2).1
          omega
        have hge := HOP.out.b.size
        have hz2 := hopA.b.size
        have HROWA := Lib.hid hrowA
        have HROW2 := Lib.hid hrow2
        have HOPA := Lib.hid hopA
        have HSEP := Lib.hid hsep
        clear hrow2 hb2 hrowA hopA hsep HROW HOP
        go_wp2_with (at_builtin; with_reducible refine apPs HROWA.out HROW2.out HSEP.out hge HLEN.out hz2 rfl _ _ rfl rfl rfl ?_)
        intro v3 w3 hrow3 hg3
        rw [← HTK.out] at hrow3
        obtain ⟨A3, C3, rfl, _⟩ := hrow3.sl
        have hop3 : OpS w w3 p im (.slice sa S.length sc) b n t S := by
          have he : Eff (fun k => (Value.slice A N C).ownBlock = some k) w2 w3 := (Eff.refl _ w2).grown hg3 (fun k hk _ => hk)
          have h9 := HOPA.out
          refine ⟨⟨(he.block p (lt_of_heap h9.l.blk) (fun e => row_ne_type HROWA.out.row h9.l.blk (by decide) e)).trans h9.l.blk, h9.l.hp, h9.l.img.eff he (fun q hq e => row_ne_own HROWA.out.row h9.l.img (by decide) e hq), h9.l.sk.eff he (fun q hq e => ?_)⟩, h9.b.grown hg3 hz2 (fun q hq => (HROWA.out.lt q hq).1)⟩
          rcases HROWA.out.row.2 with ⟨hv, _⟩ | ⟨g', cap, cur, hv, _, hgg, _⟩
          · rw [hv] at e; simp [Value.ownBlock] at e
          · rw [hv] at e
            have e' : g' = q := by simpa [Value.ownBlock] using e
            subst e'
            exact h9.l.sk.ne_type hgg (by decide) hq
        have HROW3 := Lib.hid hrow3
        have HOP3 := Lib.hid hop3
        clear hrow3 hg3 hop3 HROWA HROW2 HOPA
        go_wp2
        go_roundw
        case rel => exact ⟨k + 1, _, _, _, _, rfl, by go_num, by omega, HROW3.out, HOP3.out⟩
        case measure => simp [intOf]; omega
      · obtain rfl : k = S.length := by omega
        have i1 : ¬ ((S.length : Int) < (S.length : Int)) := by omega
        rw [List.take_of_length_le (by have := HCL.out; omega)] at hrow
        have HROW := Lib.hid hrow
        have HOP := Lib.hid hop
        clear hrow hop
        go_wp2
        go_ret2
        refine ⟨fun r hr => ?_, fun h => (by rw [HO.out] at h; cases h), HOP.out.b⟩
        rw [HO.out] at hr
        injection hr with hr
        subst hr
        exact ⟨_, _, _, _, rfl, HROW.out⟩
end Go.Proofs.YthnpbfadblcicaaDoor
