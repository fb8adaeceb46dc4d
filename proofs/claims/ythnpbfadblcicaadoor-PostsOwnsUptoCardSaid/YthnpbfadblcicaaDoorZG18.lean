/- Merged: Block, Decode, SameI, Same8. -/
import Derived.Test.YthnpbfadblcicaaDoorZG16
import Derived.Handy
import Derived.Test.YthnpbfadblcicaaDoorZG1
import Derived.BigQuiet
import Derived.Test.YthnpbfadblcicaaDoorZG2
/- posts: Block, Skip. -/
namespace Go.Proofs.YthnpbfadblcicaaDoor
set_option linter.unusedVariables false
open Go.ChangeShapes Go.WideShapes Go.ChangeAt Go.RowKit

set_option maxRecDepth 100000 in
set_option maxHeartbeats 4000000 in
theorem block_any (w : World) (p : Nat) (im : Value) (sa : Option Addr) (sc : Nat) (b : List UInt8) (n t : Nat) (S : List SkV) (cs : List (List PostV)) (B : Nat) (h : ListAt w B p im (.slice sa S.length sc) b n t S) (hok : BlkOk b S cs) (hb : b.length ≤ 1000000000) (k : Nat) (hk : k < S.length) (hk2 : k < cs.length) (EA : Nat → Addr) (hS : Sent6 w EA) :
    Calls Tryd.prog 21 #[.pointer (some ⟨p, 0, none⟩), .int .i64 (k : Nat)] w fun e w' => ∃ A N C vs, e = .returned (.slice A N C) ∧ RowP w' w.heap.size (.slice A N C) cs[k] vs ∧ Below w.heap.size w w' := by
  obtain ⟨o1, o2, o3, -, o5, o6, o7⟩ := hok.at_ k hk hk2
  have hsl := hok.sl
  obtain ⟨ps, hps⟩ : ∃ ps, cs[k] = ps := ⟨_, rfl⟩
  rw [hps] at o1 ⊢
  obtain ⟨x, hx⟩ : ∃ x, S[k] = x := ⟨_, rfl⟩
  rw [hx] at o1 o5 o6 o7
  obtain ⟨la, dc, at_, sz⟩ := x
  simp only at o1 o5 o6 o7
  obtain ⟨PB, hPB⟩ : ∃ PB, (b.drop at_).take sz = PB := ⟨_, rfl⟩
  have hPl : PB.length = sz := by rw [← hPB, List.length_take, List.length_drop]; omega
  rw [hPB] at o1
  obtain ⟨bs, hbs⟩ : ∃ bs, lastS (S.take k) = bs := ⟨_, rfl⟩
  rw [hbs] at o1 o2 o3
  obtain ⟨g, rfl, -, -, hc⟩ := h.sk.at_ k hk
  rw [hx] at hc
  have p3 : w.cell? ⟨p, 3, none⟩ = some (.slice (some ⟨g, 0, none⟩) S.length sc) := blk_cell h.blk 3
  have c1 : w.cell? ⟨g, k * 4 + 1, none⟩ = some (.int .i64 (dc : Nat)) := hc 1 _ rfl
  have t0 : decide (S.length ≤ k) = false := decide_eq_false (by omega)
  have i1 : (k : Int) < (S.length : Int) := by omega
  have hgl : g < w.heap.size := World.block_lt_of_cell? w _ c1
  have hpl := lt_of_heap h.blk
  have hC2 : ∀ W', ListAt W' B p im (.slice (some ⟨g, 0, none⟩) S.length sc) b n t S → Calls Tryd.prog 43 #[.pointer (some ⟨p, 0, none⟩), .int .i64 (k : Nat)] W' fun e w' => ∃ A N C, e = .returned (.slice A N C) ∧ Rd w' (.slice A N C) (bytesV PB) ∧ ListAt w' B p im (.slice (some ⟨g, 0, none⟩) S.length sc) b n t S ∧ Below W'.heap.size W' w' := fun W' ho => by
    have h9 := piece_any W' B p _ _ b n t S ho hb k hk (by omega) (by rw [hx]; simp only; omega)
    rw [hx] at h9
    simp only [hPB] at h9
    refine h9.mono ?_
    rintro e w' ⟨A, N, C, rfl, hrd, hbb⟩
    exact ⟨A, N, C, rfl, hrd, ho.below hbb (Nat.le_refl _), hbb⟩
  have hC3 : ∀ W', ListAt W' B p im (.slice (some ⟨g, 0, none⟩) S.length sc) b n t S → Calls Tryd.prog 44 #[.pointer (some ⟨p, 0, none⟩), .int .i64 (k : Nat)] W' fun e w' => e = .returned (.int .i64 bs) ∧ W' = w' := fun W' ho => by
    have h9 := base_any W' B p _ _ b n t S ho k (Nat.le_of_lt hk) (by omega)
    rw [hbs] at h9
    exact h9
  have hC4 : ∀ W' A N C, Below w.heap.size w W' → Rd W' (.slice A N C) (bytesV PB) → Calls Tryd.prog 42 #[.slice A N C, .int .i64 bs, .int .i64 (dc : Nat)] W' (UnpPost W' bs dc PB) := fun W' A N C ho hrd =>
    unp_any W' A N C PB hrd (by omega) bs o2 o3 dc o7 EA (hS.below ho)
  have HL := Lib.hid h
  have HC2 := Lib.hid hC2
  have HC3 := Lib.hid hC3
  have HC4 := Lib.hid hC4
  have HU := Lib.hid o1
  clear h hok hS hC2 hC3 hC4 o1 o2 o3 o5 o6 o7 hx hps hbs hPB hc hk hk2
  go_enter Tryd.func21, Tryd.ntmps21
  go_upto_region 3 with fail
  go_cut [5, 6] (fun s5 s6 wx => ∃ A N C vs, s5 = .slice A N C ∧ s6 = .bool true ∧ RowP wx w.heap.size (.slice A N C) ps vs ∧ Below w.heap.size w wx)
  case first =>
    have hl0 : ListAt w.drew B p im (.slice (some ⟨g, 0, none⟩) S.length sc) b n t S := HL.out.drewN 1
    have hb0 : Below w.heap.size w w.drew := (Below.refl _ w).drew
    have q3 : w.drew.cell? ⟨p, 3, none⟩ = some (.slice (some ⟨g, 0, none⟩) S.length sc) := p3
    have q1 : w.drew.cell? ⟨g, k * 4 + 1, none⟩ = some (.int .i64 (dc : Nat)) := c1
    go_region_with (first
      | (go_at_call 43; (with_reducible refine (HC2.out _ hl0).mono ?_); rintro e w5 ⟨A5, N5, C5, rfl, hrd5, hl5, hbb5⟩; have q35 := (hbb5.cell (p := ⟨p, 3, none⟩) hpl).trans q3; have q15 := (hbb5.cell (p := ⟨g, k * 4 + 1, none⟩) hgl).trans q1)
      | (go_at_call 44; (first | with_reducible refine (HC3.out _ hl0).mono ?_ | with_reducible refine (HC3.out _ hl5).mono ?_); rintro e w6 ⟨rfl, rfl⟩)
      | (go_at_call 42; (with_reducible refine (HC4.out _ _ _ _ (hb0.trans (hbb5.mono (Nat.le_refl _))) hrd5).mono ?_); rintro e w7 ⟨h7, -⟩; obtain ⟨A7, N7, C7, vs7, rfl, hrow7, hb7⟩ := h7 ps HU.out))
    all_goals
      go_wp2
      go_meet
      exact ⟨A7, N7, C7, vs7, rfl, rfl, hrow7.mono hbb5.size, (hb0.trans (hbb5.mono (Nat.le_refl _))).trans (hb7.mono hbb5.size)⟩
  case rest =>
    obtain ⟨A7, N7, C7, vs7, rfl, rfl, hrow, hbb⟩ := hcut
    have HROW := Lib.hid hrow
    have HBB := Lib.hid hbb
    clear hrow hbb p3 c1 t0 i1
    go_wp2
    go_ret
    exact ⟨_, _, _, _, rfl, HROW.out, HBB.out⟩
theorem block_out (w : World) (p : Nat) (im : Value) (sa : Option Addr) (sc : Nat) (b : List UInt8) (n t : Nat) (S : List SkV) (B : Nat) (h : ListAt w B p im (.slice sa S.length sc) b n t S) (k : Int) (hk : k < 0 ∨ (S.length : Int) ≤ k) :
    Calls Tryd.prog 21 #[.pointer (some ⟨p, 0, none⟩), .int .i64 k] w fun e w' => e = .returned (.slice none 0 0) ∧ w = w' := by
  have p3 : w.cell? ⟨p, 3, none⟩ = some (.slice sa S.length sc) := blk_cell h.blk 3
  by_cases h0 : k < 0
  · have t0 : decide (k < 0) = true := decide_eq_true h0
    clear hk
    go_enter Tryd.func21, Tryd.ntmps21
    go_wp2
    go_ret
    exact ⟨rfl, rfl⟩
  · have t0 : decide (k < 0) = false := decide_eq_false h0
    have t1 : decide ((S.length : Int) ≤ k) = true := decide_eq_true (by omega)
    clear hk
    go_enter Tryd.func21, Tryd.ntmps21
    go_wp2
    go_ret
    exact ⟨rfl, rfl⟩
end Go.Proofs.YthnpbfadblcicaaDoor

/- posts: Decode. -/
namespace Go.Proofs.YthnpbfadblcicaaDoor
set_option linter.unusedVariables false
open Go.ChangeShapes Go.WideShapes Go.ChangeAt Go.RowKit

/-- What Decode answers and leaves. -/
def DecPost (w : World) (EA : Nat → Addr) (b : List UInt8) (e : Ending) (w' : World) : Prop :=
  (∀ r, openV b = some r → ∃ A N C vs, e = .returned (.tuple #[.slice A N C, .nilIface]) ∧ RowP w' w.heap.size (.slice A N C) r.bl.flatten vs) ∧
  (openV b = none → e = .returned (.tuple #[.slice none 0 0, errV EA 10])) ∧ Below w.heap.size w w'
set_option maxRecDepth 100000 in
set_option maxHeartbeats 4000000 in
theorem dec_any (w : World) (a : Option Addr) (nb cb : Nat) (b : List UInt8) (hr : Rd w (.slice a nb cb) (bytesV b)) (hb : b.length ≤ 1000000000) (hfl : ∀ r, openV b = some r → r.bl.flatten.length ≤ 1000000000) (EA : Nat → Addr) (hS : Sent6 w EA) :
    Calls Tryd.prog 22 #[.slice a nb cb] w (DecPost w EA b) := by
  have C1 := open_any w a nb cb b hr hb EA hS
  have HS := Lib.hid hS
  clear hr hS
  cases ho : openV b with
  | none =>
    have HO := Lib.hid ho
    clear ho hfl
    go_enter Tryd.func22, Tryd.ntmps22
    go_wp2_with fail
    with_reducible refine C1.mono ?_
    rintro e w1 ⟨-, h1, hb1⟩
    clear C1
    obtain rfl := h1 HO.out
    have HB1 := Lib.hid hb1
    clear h1 hb1
    unfold errV
    go_wp2
    go_ret2
    exact ⟨fun r hr => (by rw [HO.out] at hr; cases hr), fun _ => rfl, HB1.out⟩
  | some r =>
    have hok := blkOk ho hb
    have hfl' := hfl r ho
    have HO := Lib.hid ho
    clear ho hfl
    go_enter Tryd.func22, Tryd.ntmps22
    go_wp2_with fail
    with_reducible refine C1.mono ?_
    rintro e w1 ⟨h1, -, hb1⟩
    clear C1
    obtain ⟨p, im, sv, rfl, hl1⟩ := h1 r HO.out
    obtain ⟨sa, sc, rfl⟩ := hl1.sk.sl
    obtain ⟨n, t, S, cs⟩ := r
    simp only at hl1 hok hfl'
    have p3 : w1.cell? ⟨p, 3, none⟩ = some (.slice sa S.length sc) := blk_cell hl1.blk 3
    have hsl := hok.sl
    have hcl := hok.len
    have hop : OpS w w1 p im (.slice sa S.length sc) b n t S := ⟨hl1, hb1⟩
    have HOP := Lib.hid hop
    have HOK := Lib.hid hok
    have HFL := Lib.hid hfl'
    have HCL := Lib.hid hcl
    clear h1 hb1 hl1 hop hok hfl' hcl
    go_wp2
    clear p3
    go_loopw [6, 21] (fun s6 s21 wr => ∃ (k : Nat) (A : Option Addr) (N C : Nat) (vs : Nat → Value), s6 = .slice A N C ∧ s21 = .int .i64 (k : Nat) ∧ k ≤ S.length ∧ RowP wr w.heap.size (.slice A N C) (cs.take k).flatten vs ∧ OpS w wr p im (.slice sa S.length sc) b n t S) (fun _ s21 _ => S.length - (intOf s21).toNat)
    case atStart => exact ⟨0, _, _, _, _, rfl, rfl, Nat.zero_le _, by rw [List.take_zero]; exact RowP.nil _ _, HOP.out⟩
    case round =>
      clear HOP
      obtain ⟨k, A, N, C, vs, rfl, rfl, hk, hrow, hop⟩ := hrel
      by_cases hlt : k < S.length
      · have i1 : (k : Int) < (S.length : Int) := by omega
        have hk2 : k < cs.length := by rw [HCL.out]; exact hlt
        have C2 := block_any wr p im sa sc b n t S cs _ hop.l HOK.out hb k hlt hk2 EA (HS.out.below hop.b)
        have htk : (cs.take (k + 1)).flatten = (cs.take k).flatten ++ cs[k] := by
          rw [List.take_succ_eq_append_getElem hk2, List.flatten_append]; simp
        have hlen : (cs.take k).flatten.length + cs[k].length ≤ 1000000000 := by
          have h1 := HFL.out
          have h2 : cs.flatten.length = (cs.take (k + 1)).flatten.length + (cs.drop (k + 1)).flatten.length := by
            rw [← List.length_append, ← List.flatten_append, List.take_append_drop]
          rw [htk, List.length_append] at h2
          omega
        obtain ⟨pk, hpk⟩ : ∃ pk, cs[k] = pk := ⟨_, rfl⟩
        rw [hpk] at C2 htk hlen
        obtain ⟨D, hD⟩ : ∃ D, (cs.take k).flatten = D := ⟨_, rfl⟩
        rw [hD] at hrow htk hlen
        have HROW := Lib.hid hrow
        have HOP := Lib.hid hop
        have HTK := Lib.hid htk
        have HLEN := Lib.hid hlen
        clear hrow hop htk hlen hpk hD hk2
        go_wp2_with fail
        with_reducible refine C2.mono ?_
        rintro e w2 ⟨A2, N2, C2', vs2, rfl, hrow2, hb2⟩
        clear C2
        have hrowA := HROW.out.below hb2 (Nat.le_refl _)
        have hopA := HOP.out.step hb2
        have hsep : ∀ i l q, i < D.length → l < pk.length → (vs i).ownBlock = some q → (vs2 l).ownBlock ≠ some q := fun i l q hi hl h1 h2 => by
          have g1 := ((HROW.out.own i hi).lt q h1).2
          have g2 := ((hrow2.own l hl).lt q h2).1
          omega
        have hge := HOP.out.b.size
        have hz2 := hopA.b.size
        have HROWA := Lib.hid hrowA
        have HROW2 := Lib.hid hrow2
        have HOPA := Lib.hid hopA
        have HSEP := Lib.hid hsep
        clear hrow2 hb2 hrowA hopA hsep HROW HOP
        go_wp2_with (at_builtin; with_reducible refine apPs HROWA.out HROW2.out HSEP.out hge HLEN.out hz2 rfl _ _ rfl rfl rfl ?_)
        intro v3 w3 hrow3 hg3
        rw [← HTK.out] at hrow3
        obtain ⟨A3, C3, rfl, _⟩ := hrow3.sl
        have hop3 : OpS w w3 p im (.slice sa S.length sc) b n t S := by
          have he : Eff (fun k => (Value.slice A N C).ownBlock = some k) w2 w3 := (Eff.refl _ w2).grown hg3 (fun k hk _ => hk)
          have h9 := HOPA.out
          refine ⟨⟨(he.block p (lt_of_heap h9.l.blk) (fun e => row_ne_type HROWA.out.row h9.l.blk (by decide) e)).trans h9.l.blk, h9.l.hp, h9.l.img.eff he (fun q hq e => row_ne_own HROWA.out.row h9.l.img (by decide) e hq), h9.l.sk.eff he (fun q hq e => ?_)⟩, h9.b.grown hg3 hz2 (fun q hq => (HROWA.out.lt q hq).1)⟩
          rcases HROWA.out.row.2 with ⟨hv, _⟩ | ⟨g', cap, cur, hv, _, hgg, _⟩
          · rw [hv] at e; simp [Value.ownBlock] at e
          · rw [hv] at e
            have e' : g' = q := by simpa [Value.ownBlock] using e
            subst e'
            exact h9.l.sk.ne_type hgg (by decide) hq
        have HROW3 := Lib.hid hrow3
        have HOP3 := Lib.hid hop3
        clear hrow3 hg3 hop3 HROWA HROW2 HOPA
        go_wp2
        go_roundw
        case rel => exact ⟨k + 1, _, _, _, _, rfl, by go_num, by omega, HROW3.out, HOP3.out⟩
        case measure => simp [intOf]; omega
      · obtain rfl : k = S.length := by omega
        have i1 : ¬ ((S.length : Int) < (S.length : Int)) := by omega
        rw [List.take_of_length_le (by have := HCL.out; omega)] at hrow
        have HROW := Lib.hid hrow
        have HOP := Lib.hid hop
        clear hrow hop
        go_wp2
        go_ret2
        refine ⟨fun r hr => ?_, fun h => (by rw [HO.out] at h; cases h), HOP.out.b⟩
        rw [HO.out] at hr
        injection hr with hr
        subst hr
        exact ⟨_, _, _, _, rfl, HROW.out⟩
end Go.Proofs.YthnpbfadblcicaaDoor

/- concordmem.SameInts: are both lists alike? -/
namespace Go.Proofs.YthnpbfadblcicaaDoor
set_option linter.unusedVariables false
open Go.ChangeShapes Go.WideShapes Go.ChangeAt Go.RowKit

theorem take_eq_snoc {l m : List Int} {i : Nat} (hl : i < l.length) (hm : i < m.length) (h : l.take i = m.take i) (e : l[i] = m[i]) : l.take (i + 1) = m.take (i + 1) := by
  rw [List.take_add_one, List.take_add_one, h, List.getElem?_eq_getElem hl, List.getElem?_eq_getElem hm, e]
set_option maxRecDepth 100000 in
theorem samei_any (w : World) (a a' : Option Addr) (n n' c c' : Nat) (l m : List Int) (h : Rd w (.slice a n c) (intL l)) (h' : Rd w (.slice a' n' c') (intL m)) (hl : (l.length : Int) ≤ 9223372036854775807) (hm : (m.length : Int) ≤ 9223372036854775807) :
    Calls Tryd.prog 45 #[.slice a n c, .slice a' n' c'] w fun e w' => e = .returned (.bool (decide (l = m))) ∧ ∃ d, w' = w.drewN d := by
  obtain ⟨rfl, hg⟩ := rd_get h
  obtain ⟨rfl, hg'⟩ := rd_get h'
  have HG := Lib.hid hg
  have HG' := Lib.hid hg'
  clear h hg h' hg'
  by_cases hlen : l.length = m.length
  · have HL := Lib.hid hlen
    have q1 : ((l.length : Int) == (m.length : Int)) = true := by simp; omega
    have q2 : l.length ≤ m.length := by omega
    have q3 : m.length ≤ l.length := by omega
    clear hlen
    go_enter Tryd.func45, Tryd.ntmps45
    go_wp2
    go_loopw [13] (fun s wr => ∃ i d : Nat, s = .int .i64 i ∧ i ≤ l.length ∧ l.take i = m.take i ∧ wr = w.drewN d) (fun s _ => l.length - (intOf s).toNat)
    case atStart => exact ⟨0, 0, rfl, Nat.zero_le _, rfl, rfl⟩
    case round =>
      obtain ⟨i, d, rfl, hi, hsame, rfl⟩ := hrel
      have HS := Lib.hid hsame
      clear hsame
      by_cases hlt : i < l.length
      · have hlt' : i < m.length := by omega
        obtain ⟨b, o, rfl, hg⟩ := HG.out (by omega)
        obtain ⟨b', o', rfl, hg'⟩ := HG'.out (by omega)
        have hc := hg i hlt
        have hc' := hg' i hlt'
        obtain ⟨z, hz⟩ : ∃ z, l[i] = z := ⟨_, rfl⟩
        obtain ⟨y, hy⟩ : ∃ y, m[i] = y := ⟨_, rfl⟩
        rw [hz] at hc
        rw [hy] at hc'
        have HZ := Lib.hid hz
        have HY := Lib.hid hy
        clear hg hg' hz hy
        by_cases he : z = y
        · subst he
          have hstep := Lib.hid (take_eq_snoc hlt hlt' HS.out (HZ.out.trans HY.out.symm))
          clear HZ HY
          go_wp2
          go_quiet (fail)
          go_wp2
          go_roundw
          case rel => exact ⟨i + 1, d + nq, by go_num, by omega, hstep.out, by first | rfl | trivial⟩
          case measure => simp [intOf]; omega
        · have hb : (z == y) = false := by simpa using he
          have HE := Lib.hid he
          clear he
          go_wp2
          go_quiet (fail)
          go_wp2
          go_ret
          have hne : ¬ l = m := fun e => by subst e; exact HE.out (HZ.out.symm.trans HY.out)
          exact ⟨ret_bool (decide_eq_false hne).symm, d + nq, World.drewN_drewN ..⟩
      · obtain rfl : i = l.length := by omega
        have hlm : l = m := by
          have := HS.out
          rw [List.take_length, HL.out, List.take_length] at this; exact this
        have HLM := Lib.hid hlm
        clear hlm
        go_wp2
        go_ret
        exact ⟨ret_bool (decide_eq_true HLM.out).symm, _, rfl⟩
  · have q1 : ((l.length : Int) == (m.length : Int)) = false := by simp; omega
    have HL := Lib.hid hlen
    clear hlen
    go_enter Tryd.func45, Tryd.ntmps45
    go_wp2
    go_ret
    exact ⟨ret_bool (decide_eq_false (fun e => HL.out (by rw [e]))).symm, 0, rfl⟩
end Go.Proofs.YthnpbfadblcicaaDoor

/- posts: the law's same, of lists that are alike. -/
namespace Go.Proofs.YthnpbfadblcicaaDoor
set_option linter.unusedVariables false
open Go.ChangeShapes Go.WideShapes Go.ChangeAt Go.RowKit

set_option maxRecDepth 100000 in
set_option maxHeartbeats 2000000 in
theorem same8_any (w : World) (a a2 : Option Addr) (n n2 c c2 : Nat) (ps : List PostV) (hr : RdPost w a n ps) (hr2 : RdPost w a2 n2 ps) (hl : ps.length ≤ 1000000000) (hp : ∀ p ∈ ps, p.pos.length ≤ 1000000000) :
    Calls Tryd.prog 20 #[.slice a n c, .slice a2 n2 c2] w fun e w' => e = .returned (.bool true) ∧ ∃ d, w' = w.drewN d := by
  obtain rfl := hr.1
  obtain rfl := hr2.1
  have HR := Lib.hid hr
  have HR2 := Lib.hid hr2
  have HP := Lib.hid hp
  clear hr hr2 hp
  go_enter Tryd.func20, Tryd.ntmps20
  go_wp2
  go_loopw [13] (fun s13 wr => ∃ (i d : Nat), s13 = .int .i64 (i : Nat) ∧ i ≤ ps.length ∧ wr = w.drewN d) (fun s13 _ => ps.length - (intOf s13).toNat)
  case atStart => exact ⟨0, 0, rfl, Nat.zero_le _, rfl⟩
  case round =>
    obtain ⟨i, d, rfl, hi, rfl⟩ := hrel
    by_cases hlt : i < ps.length
    · obtain ⟨b, o, rfl, hg⟩ := HR.out.2 (by omega)
      obtain ⟨b2, o2, rfl, hg2⟩ := HR2.out.2 (by omega)
      obtain ⟨g0, A, C, g1, hrd⟩ := hg i hlt
      obtain ⟨h0, A2, C2, h1, hrd2⟩ := hg2 i hlt
      have hpl := HP.out ps[i] (List.getElem_mem hlt)
      obtain ⟨x, hx⟩ : ∃ x, ps[i] = x := ⟨_, rfl⟩
      rw [hx] at g0 g1 h0 h1 hrd hrd2 hpl
      obtain ⟨doc, pos⟩ := x
      simp only at g0 g1 h0 h1 hrd hrd2 hpl
      have i1 : (i : Int) < (ps.length : Int) := by omega
      have t1 : ((doc : Int) != doc) = false := by simp
      have C1 : ∀ q : Nat, Calls Tryd.prog 45 #[.slice A pos.length C, .slice A2 pos.length C2] (w.drewN (d + q)) fun e w' => e = .returned (.bool true) ∧ ∃ m, w' = w.drewN (d + m) := fun q =>
        (samei_any (w.drewN (d + q)) A A2 pos.length pos.length C C2 pos pos hrd hrd2 (by omega) (by omega)).mono fun e w' hh => by
          obtain ⟨he, m, hm⟩ := hh
          exact ⟨by rw [he, decide_eq_true rfl], q + m, by rw [hm, World.drewN_drewN, Nat.add_assoc]⟩
      clear hg hg2 hrd hrd2 hx
      go_wp2
      go_quiet ((go_at_call 45; with_reducible exact C1 _))
      go_wp2
      go_roundw
      case rel => exact ⟨i + 1, d + nq, by go_num, by omega, by first | rfl | trivial | rw [World.drewN_drewN]⟩
      case measure => simp [intOf]; omega
    · obtain rfl : i = ps.length := by omega
      have i1 : ¬ ((ps.length : Int) < (ps.length : Int)) := by omega
      go_wp2
      go_ret
      exact ⟨rfl, d, rfl⟩
end Go.Proofs.YthnpbfadblcicaaDoor
