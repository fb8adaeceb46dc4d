/- auto.Literal (printed by wip/gen_lit.py). -/
import Derived.Test.YtejmjjgbbojfbaaDoorZMatch
namespace Go.Proofs.YtejmjjgbbojfbaaDoor
set_option linter.unusedVariables false
open Go.ChangeShapes Go.WideShapes Go.ChangeAt Go.RowKit

theorem litB_snoc (l : List UInt8) (c : UInt8) : litB (l ++ [c]) = litB l ++ escB c := by simp [litB]
theorem litB_len (l : List UInt8) : (litB l).length ≤ 2 * l.length := by
  induction l with
  | nil => simp [litB]
  | cons c l ih =>
    have e : litB (c :: l) = escB c ++ litB l := by simp [litB]
    have h : (escB c).length ≤ 2 := by unfold escB; split <;> simp
    rw [e, List.length_append, List.length_cons]; omega
theorem byV1 (c : UInt8) {n : Int} (h : (c.toNat : Int) = n) (l : List UInt8) : bytesV l ++ [.int .u8 n] = bytesV (l ++ [c]) := by rw [bytesV_snoc, h]
theorem byV2 (c : UInt8) {n : Int} (h : (c.toNat : Int) = n) (l : List UInt8) : bytesV l ++ [.int .u8 92, .int .u8 n] = bytesV (l ++ [92, c]) := by rw [bytesV_append, ← h]; rfl
theorem own_grow {w w' : World} {base B : Nat} {e : TypeId} {v : Value} {xs : List Value} (h : Own w base e v xs) (hg : w.grownBy w' v.ownBlock) {w0 : World} (hb : Below base w0 w) (hB : w0.heap.size = base) : Below base w0 w' :=
  ⟨hg.os.trans hb.os, hg.tape.trans hb.tape, hg.output.trans hb.output, Nat.le_trans hb.size hg.size, fun k hk => (hg.block k (Nat.lt_of_lt_of_le (by omega) hb.size) (fun e => by have := (h.lt k e.symm).1; omega)).trans (hb.block k hk)⟩
theorem ap1b {w0 : World} {c : UInt8} {base : Nat} {v : Value} {xs : List Value} (hown : Own w0 base 5 v xs) (hlen : xs.length < 1000000000000) (hbase : base ≤ w0.heap.size)
    {ops : Array Oper} {rest : List Oper} {o : Oper} {a : Act} {Q : Exit → Act → World → Prop} (hgd : o.guard = none) (s y : Operand)
    (ho : o.op = .call { callee := .builtin .append, args := #[s, y], argTypes := #[26, 26] }) (hs : a.eval s = v) (hy : a.eval y = .slice (some ⟨w0.heap.size, 0, none⟩) 1 1)
    (h : ∀ v' w', Own w' base 5 v' (xs ++ [.int .u8 (c.toNat : Nat)]) → w0.grownBy w' v.ownBlock → wpList Tryd.prog ops Q rest (a.put o.dst v') w') : wpList Tryd.prog ops Q (o :: rest) a (w0.alloc (.cells #[.int .u8 (c.toNat : Nat)] 5)) :=
  ap1 elBytes rfl hown hlen hbase hgd s y ho hs hy h
set_option maxRecDepth 100000 in
set_option maxHeartbeats 1000000 in
theorem literal_any (w : World) (s : ByteArray) (hs : s.size ≤ 1000000000) :
    Calls Tryd.prog 22 #[.string s] w fun e w' => e = .returned (.string (strOf (litB s.data.toList))) ∧ Below w.heap.size w w' := by
  have hsl : s.size = s.data.toList.length := (Array.length_toList (xs := s.data)).symm
  have HSL := Lib.hid hsl
  clear hsl
  go_enter Tryd.func22, Tryd.ntmps22
  go_wp2
  go_loopw [3, 7] (fun s3 s7 wr => ∃ (i : Nat) (A : Option Addr) (n C : Nat), s7 = .int .i64 i ∧ i ≤ s.size ∧ s3 = .slice A n C ∧ Own wr w.heap.size 5 (.slice A n C) (bytesV (litB (s.data.toList.take i))) ∧ Below w.heap.size w wr) (fun _ s7 _ => s.size - (intOf s7).toNat)
  case atStart => exact ⟨0, none, 0, 0, rfl, Nat.zero_le _, rfl, own_nil _ _ _, Below.refl _ _⟩
  case round =>
    obtain ⟨i, A, n, C, rfl, hi, rfl, hown, hb⟩ := hrel
    have hsz := hb.size
    by_cases hlt : i < s.size
    · have hil : i < s.data.toList.length := by rw [← HSL.out]; exact hlt
      have htk : s.data.toList.take (i + 1) = s.data.toList.take i ++ [s[i]'hlt] := by rw [List.take_add_one, List.getElem?_eq_getElem hil]; rfl
      have hll := litB_len (s.data.toList.take i)
      rw [List.length_take] at hll
      obtain ⟨L, hL⟩ : ∃ L, litB (s.data.toList.take i) = L := ⟨_, rfl⟩
      have hlit : litB (s.data.toList.take (i + 1)) = L ++ escB (s[i]'hlt) := by rw [htk, litB_snoc, hL]
      rw [hL] at hown hll
      have hLb : L.length ≤ 2000000000 := by have := Nat.min_le_left i s.data.toList.length; omega
      have hlen : (bytesV L).length < 1000000000000 := by rw [bytesV_length]; omega
      have hx92 : (Value.int .u8 92).oneCell' = true := rfl
      have HLIT := Lib.hid hlit
      have HB := Lib.hid hb
      clear htk hL hlit hb
      by_cases h1 : ((s[i]'hlt).toNat : Int) = 42
      · have h := h1
        have hesc : escB (s[i]'hlt) = [92, s[i]'hlt] := by unfold escB; rw [if_pos (by rw [u8_of (n := 42) (by decide) h]; decide)]
        have HESC := Lib.hid hesc
        have hx := (show (Value.int .u8 42).oneCell' = true from rfl)
        have HXI := Lib.hid h
        clear hesc
        go_upto_region 6 with fail
        go_wp2_with (at_builtin; with_reducible refine ap1 elBytes hx92 hown hlen hsz rfl _ _ rfl rfl rfl ?_)
        intro v1 w1 ho1 hg1
        have hb1 := own_grow (B := 0) hown hg1 HB.out rfl
        have hsz1 := hb1.size
        have hlen1 : (bytesV L ++ [Value.int .u8 92]).length < 1000000000000 := by rw [List.length_append, bytesV_length]; simp; omega
        obtain ⟨A1, n1, C1, rfl⟩ := own_sl ho1
        have HB1 := Lib.hid hb1
        clear hown hg1 hb1
        go_wp2_with (at_builtin; with_reducible refine ap1 elBytes hx ho1 hlen1 hsz1 rfl _ _ rfl rfl rfl ?_)
        intro v2 w2 ho2 hg2
        have hb2 := own_grow (B := 0) ho1 hg2 HB1.out rfl
        obtain ⟨A2, n2, C2, rfl⟩ := own_sl ho2
        have HB2 := Lib.hid hb2
        have HO2 := Lib.hid ho2
        clear ho1 hg2 hb2 ho2
        go_wp2
        go_roundw
        case rel => exact ⟨i + 1, A2, n2, C2, by go_num, by omega, rfl, own_to HO2.out (by rw [HLIT.out, HESC.out, ← byV2 (s[i]'hlt) HXI.out L]), HB2.out⟩
        case measure => simp [intOf]; omega
      · by_cases h2 : ((s[i]'hlt).toNat : Int) = 63
        · have h := h2
          have hesc : escB (s[i]'hlt) = [92, s[i]'hlt] := by unfold escB; rw [if_pos (by rw [u8_of (n := 63) (by decide) h]; decide)]
          have HESC := Lib.hid hesc
          have hx := (show (Value.int .u8 63).oneCell' = true from rfl)
          have HXI := Lib.hid h
          clear hesc
          go_upto_region 6 with fail
          go_wp2_with (at_builtin; with_reducible refine ap1 elBytes hx92 hown hlen hsz rfl _ _ rfl rfl rfl ?_)
          intro v1 w1 ho1 hg1
          have hb1 := own_grow (B := 0) hown hg1 HB.out rfl
          have hsz1 := hb1.size
          have hlen1 : (bytesV L ++ [Value.int .u8 92]).length < 1000000000000 := by rw [List.length_append, bytesV_length]; simp; omega
          obtain ⟨A1, n1, C1, rfl⟩ := own_sl ho1
          have HB1 := Lib.hid hb1
          clear hown hg1 hb1
          go_wp2_with (at_builtin; with_reducible refine ap1 elBytes hx ho1 hlen1 hsz1 rfl _ _ rfl rfl rfl ?_)
          intro v2 w2 ho2 hg2
          have hb2 := own_grow (B := 0) ho1 hg2 HB1.out rfl
          obtain ⟨A2, n2, C2, rfl⟩ := own_sl ho2
          have HB2 := Lib.hid hb2
          have HO2 := Lib.hid ho2
          clear ho1 hg2 hb2 ho2
          go_wp2
          go_roundw
          case rel => exact ⟨i + 1, A2, n2, C2, by go_num, by omega, rfl, own_to HO2.out (by rw [HLIT.out, HESC.out, ← byV2 (s[i]'hlt) HXI.out L]), HB2.out⟩
          case measure => simp [intOf]; omega
        · by_cases h3 : ((s[i]'hlt).toNat : Int) = 92
          · have h := h3
            have hesc : escB (s[i]'hlt) = [92, s[i]'hlt] := by unfold escB; rw [if_pos (by rw [u8_of (n := 92) (by decide) h]; decide)]
            have HESC := Lib.hid hesc
            have hx := (show (Value.int .u8 92).oneCell' = true from rfl)
            have HXI := Lib.hid h
            clear hesc
            go_upto_region 6 with fail
            go_wp2_with (at_builtin; with_reducible refine ap1 elBytes hx92 hown hlen hsz rfl _ _ rfl rfl rfl ?_)
            intro v1 w1 ho1 hg1
            have hb1 := own_grow (B := 0) hown hg1 HB.out rfl
            have hsz1 := hb1.size
            have hlen1 : (bytesV L ++ [Value.int .u8 92]).length < 1000000000000 := by rw [List.length_append, bytesV_length]; simp; omega
            obtain ⟨A1, n1, C1, rfl⟩ := own_sl ho1
            have HB1 := Lib.hid hb1
            clear hown hg1 hb1
            go_wp2_with (at_builtin; with_reducible refine ap1 elBytes hx ho1 hlen1 hsz1 rfl _ _ rfl rfl rfl ?_)
            intro v2 w2 ho2 hg2
            have hb2 := own_grow (B := 0) ho1 hg2 HB1.out rfl
            obtain ⟨A2, n2, C2, rfl⟩ := own_sl ho2
            have HB2 := Lib.hid hb2
            have HO2 := Lib.hid ho2
            clear ho1 hg2 hb2 ho2
            go_wp2
            go_roundw
            case rel => exact ⟨i + 1, A2, n2, C2, by go_num, by omega, rfl, own_to HO2.out (by rw [HLIT.out, HESC.out, ← byV2 (s[i]'hlt) HXI.out L]), HB2.out⟩
            case measure => simp [intOf]; omega
          · have hesc : escB (s[i]'hlt) = [s[i]'hlt] := by unfold escB; rw [if_neg (by rintro (e | e | e); exact u8_ne (n := 42) (by decide) h1 e; exact u8_ne (n := 63) (by decide) h2 e; exact u8_ne (n := 92) (by decide) h3 e)]
            have HESC := Lib.hid hesc
            have g1 : (((s[i]'hlt).toNat : Int) == 42) = false := beq_eq_false_iff_ne.2 h1
            have g2 : (((s[i]'hlt).toNat : Int) == 63) = false := beq_eq_false_iff_ne.2 h2
            have g3 : (((s[i]'hlt).toNat : Int) == 92) = false := beq_eq_false_iff_ne.2 h3
            clear hesc
            go_upto_region 7 with fail
            go_wp2_with (at_builtin; with_reducible refine ap1b hown hlen hsz rfl _ _ rfl rfl rfl ?_)
            intro v2 w2 ho2 hg2
            have hb2 := own_grow (B := 0) hown hg2 HB.out rfl
            obtain ⟨A2, n2, C2, rfl⟩ := own_sl ho2
            have HB2 := Lib.hid hb2
            have HO2 := Lib.hid ho2
            clear hown hg2 hb2 ho2
            go_wp2
            go_roundw
            case rel => exact ⟨i + 1, A2, n2, C2, by go_num, by omega, rfl, own_to HO2.out (by rw [HLIT.out, HESC.out, byV1 (s[i]'hlt) rfl L]), HB2.out⟩
            case measure => simp [intOf]; omega
    · obtain rfl : i = s.size := by omega
      have hall : s.data.toList.take s.size = s.data.toList := by rw [HSL.out, List.take_length]
      rw [hall] at hown
      have r4 := run_str (P := Tryd.prog) Tryd.underlying26 Tryd.underlying5 Tryd.underlying9 hown.rd
      have HB := Lib.hid hb
      clear hb hown hall
      go_wp2
      go_ret
      exact ⟨rfl, HB.out⟩
end Go.Proofs.YtejmjjgbbojfbaaDoor
