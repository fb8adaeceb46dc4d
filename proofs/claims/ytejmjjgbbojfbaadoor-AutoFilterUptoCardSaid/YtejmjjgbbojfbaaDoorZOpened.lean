/- The law's opened: a dictionary of texts, in order, each once. -/
import Derived.Test.YtejmjjgbbojfbaaDoorZG25
import Derived.Test.YtejmjjgbbojfbaaDoorZG22
import Derived.Test.YtejmjjgbbojfbaaDoorZG12
import Derived.Test.YtejmjjgbbojfbaaDoorZDictO
import Derived.Test.YtejmjjgbbojfbaaDoorZG25
import Derived.Test.YtejmjjgbbojfbaaDoorZDictW
namespace Go.Proofs.YtejmjjgbbojfbaaDoor
set_option linter.unusedVariables false
open Go.ChangeShapes Go.WideShapes Go.ChangeAt Go.RowKit

/-- A row of texts, in order, each once. -/
structure RowS (w : World) (base : Nat) (A : Option Addr) (c : Nat) (l : List ByteArray) : Prop where
  own : Own w base 9 (.slice A l.length c) (strsV l)
  ris : RisT l
  len : ∀ x ∈ l, 1 ≤ x.size ∧ x.size ≤ 65
theorem strsV_set (l : List ByteArray) (j : Nat) (x : ByteArray) : (strsV l).set j (.string x) = strsV (l.set j x) := by simp [strsV]
theorem str_less (a b : ByteArray) : Go.Op.bytesLess a.toList b.toList = ltT a b := by unfold ltT; rw [ba_list, ba_list]
theorem own_addr {w : World} {base : Nat} {e : TypeId} {A : Option Addr} {n c : Nat} {xs : List Value} (h : Own w base e (.slice A n c) xs) (hn : 0 < n) : ∃ g, A = some ⟨g, 0, none⟩ ∧ base ≤ g := by
  rcases h with ⟨h, _⟩ | ⟨g', cap, cur, hv, hb, _⟩
  · injection h with e1 e2 e3; omega
  · injection hv with e1 e2 e3; exact ⟨g', e1, hb⟩
/-- One text put in its place. -/
def PutPost (w : World) (base : Nat) (l : List ByteArray) (k : ByteArray) (i : Nat) (w' : World) (s4 : Value) : Prop := ∃ A c, s4 = .slice A (l.length + 1) c ∧ Own w' base 9 (.slice A (l.length + 1) c) (strsV (l.take i ++ k :: l.drop i)) ∧ Below base w w'
--WALK
theorem rowE_empty0 (w : World) (base : Nat) (h : base ≤ w.heap.size) : RowE (w.alloc (.cells #[] 116)) base (.slice (some ⟨w.heap.size, 0, none⟩) 0 0) [] :=
  ⟨rfl, .inr ⟨w.heap.size, 0, #[], rfl, h, heap_alloc_new w _, Nat.le_refl _, by unfold maxLen; omega, rfl, rfl⟩⟩
theorem rowE_cap {w : World} {base : Nat} {a : Option Addr} {n c : Nat} {es : List EntV} (h : RowE w base (.slice a n c) es) : n ≤ c := by
  rcases h.2 with ⟨hv, h0⟩ | ⟨g, cap, cur, hv, hb, hg, hn, _⟩
  · injection hv with e1 e2 e3; omega
  · injection hv with e1 e2 e3; omega
theorem own_blk9 {w : World} {base : Nat} {e : TypeId} {A : Option Addr} {n c : Nat} {xs : List Value} (h : Own w base e (.slice A n c) xs) (hn : 0 < n) : ∃ g cur, A = some ⟨g, 0, none⟩ ∧ w.heap[g]? = some (.cells cur e (0, 0)) := by
  rcases h with ⟨h, _⟩ | ⟨g', cap, cur, hv, hb, hg, _⟩
  · injection h with e1 e2 e3; omega
  · injection hv with e1 e2 e3; exact ⟨g', cur, e1, hg⟩
theorem put_place {l : List ByteArray} (k : ByteArray) : ∃ p, p ≤ l.length ∧ (∀ t (ht : t < l.length), t < p → ltT l[t] k = true) ∧ ∀ (hl : p < l.length), ltT l[p] k = false := by
  induction l with
  | nil => exact ⟨0, Nat.le_refl _, fun t ht => absurd ht (Nat.not_lt_zero _), fun h => absurd h (Nat.not_lt_zero _)⟩
  | cons a l ih =>
    cases h : ltT a k with
    | false => exact ⟨0, Nat.zero_le _, fun t _ ht => absurd ht (Nat.not_lt_zero _), fun _ => h⟩
    | true =>
      obtain ⟨p, h1, h2, h3⟩ := ih
      refine ⟨p + 1, by simp; omega, fun t ht htp => ?_, fun hl => h3 (by simpa using hl)⟩
      cases t with
      | zero => exact h
      | succ t => exact h2 t (by simpa using ht) (by omega)
set_option maxRecDepth 100000 in
set_option maxHeartbeats 8000000 in
theorem opened_any (w : World) (A : Option Addr) (N C : Nat) (ls : List ByteArray) (hr : Rd w (.slice A N C) (strsV ls)) (hn : ls.length ≤ 2000) (EA : Nat → Addr) (hE : ∀ X, Below w.heap.size w X → DErr X EA) :
    Calls Tryd.prog 38 #[.slice A N C] w fun e w' => ∃ base q v a c rows, w.heap.size ≤ base ∧ e = .returned (.tuple #[.pointer (some ⟨q, 0, none⟩), .slice a (List.length rows) c]) ∧ DictAt w' base q v (entsN rows rows.length) ∧ Rd w' (.slice a rows.length c) (strsV rows) ∧ RisT rows ∧ (∀ x ∈ rows, 1 ≤ x.size ∧ x.size ≤ 65) ∧ rows.length ≤ ls.length ∧ Below w.heap.size w w' := by
  obtain ⟨rfl, -⟩ := rd_strs hr
  have HK := Lib.hid (show ∀ X, Below w.heap.size w X → ∀ i (hi : i < ls.length), ∃ b o, A = some ⟨b, o, none⟩ ∧ X.cell? ⟨b, o + i, none⟩ = some (.string ls[i]) from fun X hb i hi => (rd_strs (hr.below hb (Nat.le_refl _))).2 i hi)
  have HN := Lib.hid hn
  have HE := Lib.hid hE
  clear hr hn hE
  go_enter Tryd.func38, Tryd.ntmps38
  go_upto_region 2 with fail
  have H0 := Lib.hid (show RowS (w.alloc (.cells #[] 9)) w.heap.size (some ⟨w.heap.size, 0, none⟩) 0 [] from ⟨own_lit w _ 9 [] (Nat.le_refl _) (by decide), List.Pairwise.nil, fun x hx => by cases hx⟩)
  have HB0 := Lib.hid (show Below w.heap.size w (w.alloc (.cells #[] 9)) from (Below.refl _ _).alloc (Nat.le_refl _) _)
  go_wp2
  go_loopw [4, 19] (fun s4 s19 wr => ∃ (i : Nat) (A4 : Option Addr) (C4 : Nat) (l : List ByteArray), s19 = .int .i64 (i : Nat) ∧ i ≤ ls.length ∧ s4 = .slice A4 l.length C4 ∧ RowS wr w.heap.size A4 C4 l ∧ l.length ≤ i ∧ Below w.heap.size w wr) (fun _ s19 _ => ls.length - (intOf s19).toNat)
  case atStart => exact ⟨0, _, 0, [], rfl, Nat.zero_le _, rfl, H0.out, Nat.le_refl _, HB0.out⟩
  case round =>
    obtain ⟨i, A4, C4, l, rfl, hi, rfl, hrow, hl, hb⟩ := hrel
    by_cases hlt : i < ls.length
    · obtain ⟨b, o, rfl, x1⟩ := HK.out wr hb i hlt
      obtain ⟨k, hk⟩ : ∃ k, ls[i] = k := ⟨_, rfl⟩
      rw [hk] at x1
      have i1 : (i : Int) < (ls.length : Int) := by omega
      have w2 : IntKind.i64.wrap ((i : Int) + 1) = ((i + 1 : Nat) : Int) := by rw [IntKind.wrap_i64]; have := HN.out; omega
      have HROW := Lib.hid hrow
      have HLL := Lib.hid (Nat.le_trans hl (Nat.le_trans hi HN.out))
      have HLI := Lib.hid hl
      have HB := Lib.hid hb
      clear hk hrow hl hb
      by_cases h1 : k.size < 1
      · have t1 : (k.size : Int) < 1 := by omega
        clear h1
        go_wp2
        go_roundw
        case rel => exact ⟨i + 1, A4, C4, l, by first | rfl | rw [w2], by omega, rfl, HROW.out, by have := HLI.out; omega, HB.out⟩
        case measure => simp [intOf]; omega
      · by_cases h2 : 65 < k.size
        · have t1 : ¬ (k.size : Int) < 1 := by omega
          have t2 : (65 : Int) < (k.size : Int) := by omega
          clear h1 h2
          go_wp2
          go_roundw
          case rel => exact ⟨i + 1, A4, C4, l, by first | rfl | rw [w2], by omega, rfl, HROW.out, by have := HLI.out; omega, HB.out⟩
          case measure => simp [intOf]; omega
        · have t1 : ¬ (k.size : Int) < 1 := by omega
          have t2 : ¬ (65 : Int) < (k.size : Int) := by omega
          have HKS := Lib.hid (show 1 ≤ k.size ∧ k.size ≤ 65 by omega)
          obtain ⟨p, hp, hlo, hhi⟩ := put_place (l := l) k
          have HLO := Lib.hid hlo
          have HHI := Lib.hid hhi
          clear h1 h2 hlo hhi
          go_upto_region 6 with fail
          clear t1 t2
          go_wp2
          go_loop [7] (fun s7 => ∃ j : Nat, s7 = .int .i64 (j : Nat) ∧ j ≤ p) (fun s7 => p - (intOf s7).toNat)
          case atStart => exact ⟨0, rfl, Nat.zero_le _⟩
          case round =>
            obtain ⟨j, rfl, hj⟩ := hrel
            by_cases hjp : j < p
            · have hjl : j < l.length := by omega
              obtain ⟨g, rfl, -⟩ := own_addr HROW.out.own (by omega)
              have y1 := HROW.out.own.get (strsV_get hjl)
              have t3 := HLO.out j hjl hjp
              have HJP := Lib.hid hjp
              have hj5 : j ≤ 2000 := by have := HLL.out; omega
              rw [← str_less] at t3
              have j1 : (j : Int) < (l.length : Int) := by omega
              go_wp2
              go_roundw
              case rel => exact ⟨j + 1, by go_num, HJP.out⟩
              case measure => have := HJP.out; simp [intOf]; omega
            · obtain rfl : j = p := by omega
              by_cases hpl : j < l.length
              · obtain ⟨g, rfl, -⟩ := own_addr HROW.out.own (by omega)
                have y1 := HROW.out.own.get (strsV_get hpl)
                have t3 := HHI.out hpl
                rw [← str_less] at t3
                have j1 : (j : Int) < (l.length : Int) := by omega
                by_cases heq : l[j] = k
                · have t4 : (l[j].toList == k.toList) = true := by rw [heq]; simp
                  have HIL := Lib.hid hlt
                  clear hlt heq
                  go_wp2
                  go_roundw
                  case rel => exact ⟨i + 1, _, C4, l, by first | rfl | rw [w2], by have := HIL.out; omega, rfl, HROW.out, by have := HLI.out; omega, HB.out⟩
                  case measure => have := HIL.out; simp [intOf]; omega
                · have hput : ∀ (hl : j < l.length), ltT l[j] k = false ∧ l[j] ≠ k := fun hl => ⟨HHI.out hl, heq⟩
                  have HJL := Lib.hid (Nat.le_of_lt hpl)
                  have t4 : (l[j].toList == k.toList) = false := by
                    rw [ba_list, ba_list]
                    cases hq : (l[j].data.toList == k.data.toList) with
                    | false => rfl
                    | true => exact absurd (ba_ext (eq_of_beq hq)) heq
                  have hrow9 := HROW.out
                  go_upto_region 10 with fail
                  have hl9 : (strsV l).length < 1000000000000 := by rw [strsV_length]; have := HLL.out; omega
                  have hb9 := HB.out
                  go_upto_region 11 with (at_builtin; with_reducible refine ap1' elStrG (x := .string ⟨#[]⟩) rfl hrow9.own hl9 hb9.size rfl _ _ rfl rfl rfl ?_)
                  intro v' w9 hO9 hk9 hown9 hgr9
                  obtain ⟨A9, c9, rfl⟩ := own_slice hO9
                  have hl10 : (strsV l ++ [Value.string ⟨#[]⟩]).length = l.length + 1 := by rw [List.length_append, strsV_length]; rfl
                  rw [hl10] at hO9 ⊢
                  obtain ⟨g9, rfl, -⟩ := own_addr hO9 (by omega)
                  have hB9 : Below w.heap.size w w9 := hb9.grown hgr9 hb9.size (fun k hk => (hrow9.own.lt k hk).1)
                  have hO10 : Own w9 w.heap.size 9 (.slice (some ⟨g9, 0, none⟩) (l.length + 1) c9) (strsV (l.take l.length ++ ⟨#[]⟩ :: l.drop l.length)) := own_to hO9 (by rw [← ins_start]; simp [strsV])
                  have HO10 := Lib.hid hO10
                  have HB9 := Lib.hid hB9
                  have HIL := Lib.hid hlt
                  have HHJ := Lib.hid hput
                  have w3 : IntKind.i64.wrap (l.length : Int) = (l.length : Int) := by rw [IntKind.wrap_i64]; have := HLL.out; omega
                  have hl5 : l.length ≤ 2000 := HLL.out
                  clear hO9 hk9 hown9 hgr9 hl9 hl10 hrow9 hb9 hB9 hO10 hlt hput j1
                  go_wp2
                  go_loopw [8] (fun s8 wx => ∃ (m : Nat) (y : ByteArray), s8 = .int .i64 (m : Nat) ∧ j ≤ m ∧ m ≤ l.length ∧ Own wx w.heap.size 9 (.slice (some ⟨g9, 0, none⟩) (l.length + 1) c9) (strsV (l.take m ++ y :: l.drop m)) ∧ Below w.heap.size w wx) (fun s8 _ => (intOf s8).toNat)
                  case atStart => exact ⟨l.length, _, by first | rfl | rw [w3] | go_num, by have := HJL.out; omega, Nat.le_refl _, HO10.out, HB9.out⟩
                  case round =>
                    obtain ⟨m, y, rfl, hjm, hml, hOx, hBx⟩ := hrel
                    have hlenx := ins_len l y hml
                    by_cases hmj : j < m
                    · obtain ⟨u, rfl⟩ : ∃ u, m = u + 1 := ⟨m - 1, by omega⟩
                      have hst := ins_step l (j := u + 1) (by omega) hml
                      have hgt := ins_get l y (j := u + 1) (by omega) hml
                      simp only [Nat.add_sub_cancel] at hst hgt
                      obtain ⟨xv, hxv⟩ : ∃ xv, l[u] = xv := ⟨_, rfl⟩
                      rw [hxv] at hst hgt
                      have y1 := hOx.get (j := u) (x := .string xv) (by unfold strsV; rw [List.getElem?_map, hgt]; rfl)
                      have y2 := hOx.get (j := u + 1) (x := .string ((l.take (u + 1) ++ y :: l.drop (u + 1))[u + 1]'(by rw [hlenx]; omega))) (strsV_get (by rw [hlenx]; omega))
                      have y3 := hOx.frozen (u + 1)
                      have hset := hOx.set (u + 1) (.string xv)
                      rw [strsV_set, ins_set l y xv hml, hst] at hset
                      have hz := hOx.lt g9 rfl
                      have HSET := Lib.hid hset
                      have HBX := Lib.hid (hBx.setCell (p := ⟨g9, u + 1, none⟩) hz.1 (.string xv))
                      have w4 : IntKind.i64.wrap (u : Int) = (u : Int) := by rw [IntKind.wrap_i64]; have := HLL.out; omega
                      have u1 : (u : Int) < ((l.length + 1 : Nat) : Int) := by omega
                      have u2 : ((u + 1 : Nat) : Int) < ((l.length + 1 : Nat) : Int) := by omega
                      have u3 : (j : Int) < ((u + 1 : Nat) : Int) := by omega
                      generalize (l.take (u + 1) ++ y :: l.drop (u + 1))[u + 1]'(by rw [hlenx]; omega) = yo at y2
                      have HML := Lib.hid hml
                      have HMJ := Lib.hid hmj
                      clear hst hgt hxv hset hz hOx hBx hlenx hml hmj hjm
                      go_wp2
                      go_roundw
                      case rel => exact ⟨u, xv, by first | rfl | rw [w4] | go_num, by have := HMJ.out; omega, by have := HML.out; omega, HSET.out, HBX.out⟩
                      case measure => first | (simp [intOf]; done) | (simp [intOf]; omega)
                    · obtain rfl : j = m := by omega
                      have y2 := hOx.get (j := j) (x := .string ((l.take j ++ y :: l.drop j)[j]'(by rw [hlenx]; omega))) (strsV_get (by rw [hlenx]; omega))
                      have y3 := hOx.frozen j
                      have hset := hOx.set j (.string k)
                      rw [strsV_set, ins_set l y k hml] at hset
                      have hz := hOx.lt g9 rfl
                      have HBX := Lib.hid (hBx.setCell (p := ⟨g9, j, none⟩) hz.1 (.string k))
                      have hrow : RowS (wr.setCell ⟨g9, j, none⟩ (.string k)) w.heap.size (some ⟨g9, 0, none⟩) c9 (l.take j ++ k :: l.drop j) := ⟨by rw [ins_len l k hml]; exact hset, ris_ins HROW.out.ris hml HLO.out HHJ.out, ins_mem HROW.out.len HKS.out⟩
                      have HROW2 := Lib.hid hrow
                      have HLEN2 := Lib.hid (ins_len l k hml)
                      have u2 : (j : Int) < ((l.length + 1 : Nat) : Int) := by omega
                      have u3 : ¬ (j : Int) < (j : Int) := by omega
                      generalize (l.take j ++ y :: l.drop j)[j]'(by rw [hlenx]; omega) = yo at y2
                      clear hset hz hOx hBx hlenx hml hmj hjm hrow
                      go_wp2
                      go_roundw
                      case rel => exact ⟨i + 1, some ⟨g9, 0, none⟩, c9, l.take j ++ k :: l.drop j, by first | rfl | rw [w2], by have := HIL.out; omega, by rw [HLEN2.out], HROW2.out, by rw [HLEN2.out]; have := HLI.out; omega, HBX.out⟩
                      case measure => have := HIL.out; simp [intOf]; omega
              · have hput : ∀ (hl : j < l.length), ltT l[j] k = false ∧ l[j] ≠ k := fun hl => absurd hl hpl
                have HJL := Lib.hid hp
                have j1 : ¬ (j : Int) < (l.length : Int) := by omega
                have hrow9 := HROW.out
                go_upto_region 10 with fail
                have hl9 : (strsV l).length < 1000000000000 := by rw [strsV_length]; have := HLL.out; omega
                have hb9 := HB.out
                go_upto_region 11 with (at_builtin; with_reducible refine ap1' elStrG (x := .string ⟨#[]⟩) rfl hrow9.own hl9 hb9.size rfl _ _ rfl rfl rfl ?_)
                intro v' w9 hO9 hk9 hown9 hgr9
                obtain ⟨A9, c9, rfl⟩ := own_slice hO9
                have hl10 : (strsV l ++ [Value.string ⟨#[]⟩]).length = l.length + 1 := by rw [List.length_append, strsV_length]; rfl
                rw [hl10] at hO9 ⊢
                obtain ⟨g9, rfl, -⟩ := own_addr hO9 (by omega)
                have hB9 : Below w.heap.size w w9 := hb9.grown hgr9 hb9.size (fun k hk => (hrow9.own.lt k hk).1)
                have hO10 : Own w9 w.heap.size 9 (.slice (some ⟨g9, 0, none⟩) (l.length + 1) c9) (strsV (l.take l.length ++ ⟨#[]⟩ :: l.drop l.length)) := own_to hO9 (by rw [← ins_start]; simp [strsV])
                have HO10 := Lib.hid hO10
                have HB9 := Lib.hid hB9
                have HIL := Lib.hid hlt
                have HHJ := Lib.hid hput
                have w3 : IntKind.i64.wrap (l.length : Int) = (l.length : Int) := by rw [IntKind.wrap_i64]; have := HLL.out; omega
                have hl5 : l.length ≤ 2000 := HLL.out
                clear hO9 hk9 hown9 hgr9 hl9 hl10 hrow9 hb9 hB9 hO10 hlt hput j1
                go_wp2
                go_loopw [8] (fun s8 wx => ∃ (m : Nat) (y : ByteArray), s8 = .int .i64 (m : Nat) ∧ j ≤ m ∧ m ≤ l.length ∧ Own wx w.heap.size 9 (.slice (some ⟨g9, 0, none⟩) (l.length + 1) c9) (strsV (l.take m ++ y :: l.drop m)) ∧ Below w.heap.size w wx) (fun s8 _ => (intOf s8).toNat)
                case atStart => exact ⟨l.length, _, by first | rfl | rw [w3] | go_num, by have := HJL.out; omega, Nat.le_refl _, HO10.out, HB9.out⟩
                case round =>
                  obtain ⟨m, y, rfl, hjm, hml, hOx, hBx⟩ := hrel
                  have hlenx := ins_len l y hml
                  by_cases hmj : j < m
                  · exfalso; omega
                  · obtain rfl : j = m := by omega
                    have y2 := hOx.get (j := j) (x := .string ((l.take j ++ y :: l.drop j)[j]'(by rw [hlenx]; omega))) (strsV_get (by rw [hlenx]; omega))
                    have y3 := hOx.frozen j
                    have hset := hOx.set j (.string k)
                    rw [strsV_set, ins_set l y k hml] at hset
                    have hz := hOx.lt g9 rfl
                    have HBX := Lib.hid (hBx.setCell (p := ⟨g9, j, none⟩) hz.1 (.string k))
                    have hrow : RowS (wr.setCell ⟨g9, j, none⟩ (.string k)) w.heap.size (some ⟨g9, 0, none⟩) c9 (l.take j ++ k :: l.drop j) := ⟨by rw [ins_len l k hml]; exact hset, ris_ins HROW.out.ris hml HLO.out HHJ.out, ins_mem HROW.out.len HKS.out⟩
                    have HROW2 := Lib.hid hrow
                    have HLEN2 := Lib.hid (ins_len l k hml)
                    have u2 : (j : Int) < ((l.length + 1 : Nat) : Int) := by omega
                    have u3 : ¬ (j : Int) < (j : Int) := by omega
                    generalize (l.take j ++ y :: l.drop j)[j]'(by rw [hlenx]; omega) = yo at y2
                    clear hset hz hOx hBx hlenx hml hmj hjm hrow
                    go_wp2
                    go_roundw
                    case rel => exact ⟨i + 1, some ⟨g9, 0, none⟩, c9, l.take j ++ k :: l.drop j, by first | rfl | rw [w2], by have := HIL.out; omega, by rw [HLEN2.out], HROW2.out, by rw [HLEN2.out]; have := HLI.out; omega, HBX.out⟩
                    case measure => have := HIL.out; simp [intOf]; omega
    · obtain rfl : i = ls.length := by omega
      have i1 : ¬ (ls.length : Int) < (ls.length : Int) := by omega
      have HROW := Lib.hid hrow
      have HLN := Lib.hid hl
      have HB := Lib.hid hb
      clear hrow hl hb hlt hi
      go_upto_region 18 with fail
      have hR1 := rowE_empty0 wr w.heap.size HB.out.size
      have hb1 : Below wr.heap.size wr (wr.alloc (.cells #[] 116)) := (Below.refl _ _).alloc (Nat.le_refl _) _
      have HR1 := Lib.hid hR1
      have HB1 := Lib.hid (HB.out.trans (hb1.mono HB.out.size))
      have HO1 := Lib.hid (HROW.out.own.below hb1 (Nat.le_refl _))
      clear hR1 hb1 i1
      go_wp2
      go_loopw [9, 84] (fun s9 s84 wx => ∃ (j : Nat) (A9 : Option Addr) (C9 : Nat), s84 = .int .i64 (j : Nat) ∧ j ≤ l.length ∧ s9 = .slice A9 j C9 ∧ RowE wx w.heap.size (.slice A9 j C9) (entsN l j) ∧ Own wx w.heap.size 9 (.slice A4 l.length C4) (strsV l) ∧ Below w.heap.size w wx) (fun _ s84 _ => l.length - (intOf s84).toNat)
      case atStart => exact ⟨0, _, 0, rfl, Nat.zero_le _, rfl, HR1.out, HO1.out, HB1.out⟩
      case round =>
        obtain ⟨j, A9, C9, rfl, hj, rfl, hre, ho, hbx⟩ := hrel
        have hln := HLN.out
        have hn9 := HN.out
        by_cases hjl : j < l.length
        · obtain ⟨g, cur, rfl, hgb⟩ := own_blk9 ho (by omega)
          have x1 := ho.get (strsV_get hjl)
          have hmk : mkE l j = ⟨l[j], (j : Nat), (2 * j : Nat), (j : Nat), 1⟩ := by unfold mkE; simp [hjl]
          have hes := entsN_succ l j
          rw [hmk] at hes
          obtain ⟨k, hk⟩ : ∃ k, l[j] = k := ⟨_, rfl⟩
          rw [hk] at x1 hes
          have j1 : (j : Int) < (l.length : Int) := by omega
          have w2 : IntKind.i64.wrap ((j : Int) + 1) = ((j + 1 : Nat) : Int) := by rw [IntKind.wrap_i64]; omega
          have w3 : IntKind.i64.wrap (2 * (j : Int)) = ((2 * j : Nat) : Int) := by rw [IntKind.wrap_i64]; omega
          obtain ⟨d, hd⟩ : ∃ d, 2 * j = d := ⟨_, rfl⟩
          rw [hd] at w3 hes
          have hz := hbx.size
          have hl8 : (entsN l j).length ≤ 1000000000 := by rw [entsN_length]; omega
          have hne : (Value.slice (some ⟨g, 0, none⟩) l.length C4).ownBlock ≠ (Value.slice A9 j C9).ownBlock := fun e => hre.ne_type hgb (by decide) e.symm
          have HES := Lib.hid hes
          have HRE := Lib.hid hre
          have HO := Lib.hid ho
          have HBX := Lib.hid hbx
          have HNE := Lib.hid hne
          have HJL := Lib.hid hjl
          clear hmk hes hk hre ho hbx hgb hne hd hjl hj
          go_wp2_with (at_builtin; with_reducible refine apE HRE.out hl8 hz rfl _ _ rfl rfl rfl ?_)
          intro v9 w9 hrow9 hg9
          have hb9 := HRE.out.grown hg9 HBX.out (Nat.le_refl _)
          have ho9 := HO.out.kept hg9 (.inr HNE.out)
          rw [← HES.out] at hrow9
          obtain ⟨a9, c9, rfl⟩ := hrow9.sl
          rw [entsN_length] at hrow9 ⊢
          have HR9 := Lib.hid hrow9
          have HB9 := Lib.hid hb9
          have HO9 := Lib.hid ho9
          clear hb9 ho9 hrow9 hg9 hl8 hz
          go_wp2
          go_roundw
          case rel => exact ⟨j + 1, a9, c9, by first | rfl | rw [w2], HJL.out, rfl, HR9.out, HO9.out, HB9.out⟩
          case measure => have := HJL.out; simp [intOf]; omega
        · obtain rfl : j = l.length := by omega
          have ok := ents_ok HROW.out.len (by omega)
          have ris := ents_rising HROW.out.ris
          have hlen9 : (entsN l l.length).length ≤ 1000000 := by rw [entsN_length]; omega
          have him := image_most (by omega) ok
          have hpp := parse_put ok ris (by omega)
          have C1 := build_any wr A9 l.length C9 (entsN l l.length) hre.rd (rowE_cap hre) (by omega) (fun ok => him) EA (HE.out _ hbx).r
          have i1 : ¬ (l.length : Int) < (l.length : Int) := by omega
          have HO := Lib.hid ho
          have HBX := Lib.hid hbx
          have HOK := Lib.hid ok
          have HRIS := Lib.hid ris
          have HPP := Lib.hid hpp
          have HIM := Lib.hid him
          clear hre ho hbx ok ris hpp him hj hjl hlen9
          go_wp2_with fail
          refine C1.mono ?_
          rintro e w3 h3
          obtain ⟨v', rfl, ho3, hb3⟩ := h3.1 HOK.out HRIS.out
          obtain ⟨A3, N3, C3, rfl⟩ := own_sl ho3
          have hb03 := HBX.out.trans (hb3.mono HBX.out.size)
          have C2 := open_any w3 A3 N3 C3 (imageB (entsN l l.length)) ho3.rd HIM.out EA (HE.out _ hb03)
          rw [HPP.out] at C2
          have HB3 := Lib.hid hb03
          have HO3 := Lib.hid (HO.out.below hb3 (Nat.le_refl _))
          clear C1 h3 ho3 hb3 hb03 i1 hln hn9
          go_wp2_with fail
          refine C2.mono ?_
          rintro e w4 h4
          obtain ⟨q, v, rfl, hD, hb4⟩ := h4.1 _ rfl
          have HD := Lib.hid hD
          have HB4 := Lib.hid (HB3.out.trans (hb4.mono HB3.out.size))
          have HO4 := Lib.hid (HO3.out.below hb4 (Nat.le_refl _))
          clear C2 h4 hD hb4
          go_wp2
          go_ret2
          exact ⟨w3.heap.size, q, v, A4, C4, l, HB3.out.size, rfl, HD.out, HO4.out.rd, HROW.out.ris, HROW.out.len, HLN.out, HB4.out⟩
end Go.Proofs.YtejmjjgbbojfbaaDoor
