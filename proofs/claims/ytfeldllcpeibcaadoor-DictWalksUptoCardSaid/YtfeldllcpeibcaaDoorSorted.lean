/- The law's sorted: the keys, each once, rising. -/
import Derived.Test.YtfeldllcpeibcaaDoorDictT
import Derived.Test.YtfeldllcpeibcaaDoorShelf
import Derived.Sort.OwnSorted
namespace Go.Proofs.YtfeldllcpeibcaaDoor
set_option linter.unusedVariables false
open Go.ChangeShapes Go.WideShapes Go.ChangeAt Go.RowKit Go.Sort

theorem elKey : Elem Tryd.prog 57 9 (.string ⟨#[]⟩) 16 := ⟨Tryd.underlying57, by kernel_rfl, rfl, by decide⟩
/-- Keys as cells. -/
def keysV (l : List (List UInt8)) : List Value := l.map encStr
theorem keysV_length (l : List (List UInt8)) : (keysV l).length = l.length := by simp [keysV]
theorem keysV_snoc (l : List (List UInt8)) (k : List UInt8) : keysV (l ++ [k]) = keysV l ++ [.string (strOf k)] := by simp [keysV, encStr, strOf]
def okKey (k : List UInt8) : Prop := 1 ≤ k.length ∧ k.length ≤ 65
/-- sort.Strings over a slice of the call's own. -/
theorem ssort_own (w : World) (base : Nat) (a : Option Addr) (n c : Nat) (l : List (List UInt8)) (ho : Own w base 9 (.slice a n c) (keysV l)) (hl : l.length ≤ 1000000000) :
    Calls Tryd.prog 52 #[.slice a n c] w fun e w' => e = .returned (.tuple #[]) ∧ Own w' base 9 (.slice a n c) (keysV (l.mergeSort fun x y => decide (x ≤ y))) ∧ w.grownBy w' (Value.slice a n c).ownBlock := by
  have hn := ho.len
  rw [keysV_length] at hn
  subst hn
  rcases ho with ⟨hv, h0⟩ | ⟨g, cap, cur, hv, hb, hg, hlc, hcc, hm, ht⟩
  · injection hv with h1 h2 h3
    subst h1 h3
    have hl0 : l = [] := List.eq_nil_of_length_eq_zero h2
    subst hl0
    refine (Tryd.sort_Strings_none none 0 w).mono ?_
    rintro e w' ⟨rfl, rfl⟩
    exact ⟨rfl, .inl ⟨rfl, by simp [keysV]⟩, World.grownBy.refl _ _⟩
  · rw [keysV_length] at hv hlc ht
    injection hv with h1 _ h3
    subst h1 h3
    refine (Tryd.sort_Strings g 0 c l w (holds_of_block hg ht) (lt_of_heap hg) (by omega)).mono ?_
    rintro e w' ⟨rfl, d, os, rfl⟩
    have hlen : (l.mergeSort fun x y => decide (x ≤ y)).length = l.length := by simp
    refine ⟨rfl, .inr ⟨g, c, _, by rw [keysV_length, hlen], hb, heap_sorted _ hg, by rw [keysV_length, hlen]; exact hlc, by simp [putCells]; exact hcc, hm, by rw [keysV_length]; exact take_putCells cur _ (by omega)⟩, grownBy_sorted _⟩
theorem bl_eq : ∀ (x y : List UInt8), Go.Op.bytesLess x y = decide (x < y)
  | [], [] => by simp [Go.Op.bytesLess]
  | _ :: _, [] => by simp [Go.Op.bytesLess]
  | [], _ :: _ => by simp [Go.Op.bytesLess]
  | a :: x, b :: y => by
    rw [Go.Op.bytesLess, bl_eq x y]
    simp only [List.cons_lt_cons_iff]
    by_cases h1 : a < b <;> by_cases h2 : a = b <;> by_cases h3 : x < y <;> simp [h1, h2, h3]
theorem sort_le (l : List (List UInt8)) : (l.mergeSort fun x y => decide (x ≤ y)).Pairwise (fun x y => Go.Op.bytesLess y x = false) := by
  have h := List.pairwise_mergeSort (le := fun x y : List UInt8 => decide (x ≤ y)) (fun a b c h1 h2 => decide_eq_true (List.le_trans (of_decide_eq_true h1) (of_decide_eq_true h2))) (fun a b => by
    rcases List.le_total a b with h | h
    · simp [h]
    · simp [h]) l
  exact h.imp fun {x y} hxy => by rw [bl_eq]; exact decide_eq_false (List.not_lt.2 (of_decide_eq_true hxy))
theorem bl_strict {x y : List UInt8} (h : Go.Op.bytesLess y x = false) (hne : y ≠ x) : Go.Op.bytesLess x y = true := by
  have := bl_gt y x
  rw [h, Bool.false_or] at this
  rw [← this, beq_eq_false_iff_ne.2 hne]; rfl
theorem bl_le_strict {x y z : List UInt8} (h : Go.Op.bytesLess x y = true) (h2 : Go.Op.bytesLess z y = false) : Go.Op.bytesLess x z = true := by
  by_cases hz : z = y
  · rw [hz]; exact h
  · exact bl_trans _ _ _ h (bl_strict h2 hz)
theorem keysV_set (l : List (List UInt8)) (j : Nat) (k : List UInt8) : keysV (l.set j k) = (keysV l).set j (.string (strOf k)) := by simp [keysV, List.map_set, encStr, strOf]
theorem keysV_get {l : List (List UInt8)} {j : Nat} (h : j < l.length) : (keysV l)[j]? = some (.string (strOf l[j])) := by simp [keysV, h, encStr, strOf]
/-- The dedup's state: the first m places hold what stands, the places from i on what stood. -/
structure DD (ms X : List (List UInt8)) (i m : Nat) : Prop where
  len : X.length = ms.length
  le : m ≤ i
  hi : i ≤ ms.length
  rest : ∀ t, i ≤ t → X[t]? = ms[t]?
  asc : (X.take m).Pairwise (fun x y => Go.Op.bytesLess x y = true)
  mem : ∀ k ∈ X.take m, k ∈ ms
  pos : 0 < i → 0 < m
  last : 0 < m → X[m - 1]? = ms[i - 1]?
theorem DD.skip {ms X : List (List UInt8)} {i m : Nat} (h : DD ms X i m) (hi : i < ms.length) (hm : 0 < m) (he : X[m - 1]? = ms[i]?) : DD ms X (i + 1) m :=
  ⟨h.len, by have := h.le; omega, hi, fun t ht => h.rest t (by omega), h.asc, h.mem, fun _ => hm, fun _ => by rw [he, Nat.add_sub_cancel]⟩
theorem DD.put {ms X : List (List UInt8)} {i m : Nat} (h : DD ms X i m) (hi : i < ms.length) (hs : ms.Pairwise (fun x y => Go.Op.bytesLess y x = false)) (hn : 0 < i → X[m - 1]? ≠ ms[i]?) : DD ms (X.set m ms[i]) (i + 1) (m + 1) := by
  have hl := h.len
  have hle := h.le
  have hmX : m < X.length := by omega
  have htk : (X.set m ms[i]).take (m + 1) = X.take m ++ [ms[i]] := by
    rw [List.take_succ_eq_append_getElem (by rw [List.length_set]; exact hmX), List.getElem_set_self]
    congr 1
    rw [List.take_set_of_le (Nat.le_refl _)]
  refine ⟨by rw [List.length_set]; exact hl, by omega, hi, fun t ht => ?_, ?_, ?_, fun _ => by omega, fun _ => ?_⟩
  · rw [List.getElem?_set_ne (by omega)]; exact h.rest t (by omega)
  · rw [htk, List.pairwise_append]
    refine ⟨h.asc, List.pairwise_singleton _ _, fun x hx y hy => ?_⟩
    rw [List.mem_singleton.1 hy]
    obtain ⟨j, hj, rfl⟩ := List.mem_iff_getElem.1 hx
    rw [List.length_take] at hj
    have hjm : j < m := by omega
    have hi0 : 0 < i := by omega
    have hlast := h.last (by omega)
    have hm1 : m - 1 < (X.take m).length := by rw [List.length_take]; omega
    have hxl : (X.take m)[m - 1] = ms[i - 1]'(by omega) := by
      rw [List.getElem_take]
      rw [List.getElem?_eq_getElem (by omega), List.getElem?_eq_getElem (by omega)] at hlast
      exact Option.some.inj hlast
    have hne : ms[i] ≠ ms[i - 1]'(by omega) := fun e => hn hi0 (by rw [hlast, List.getElem?_eq_getElem hi, List.getElem?_eq_getElem (by omega), e])
    have hst := bl_strict (List.pairwise_iff_getElem.1 hs (i - 1) i (by omega) hi (by omega)) hne
    rcases Nat.lt_or_eq_of_le (show j ≤ m - 1 by omega) with hj1 | hj1
    · have := List.pairwise_iff_getElem.1 h.asc j (m - 1) (by rw [List.length_take]; omega) hm1 hj1
      rw [hxl] at this
      exact bl_trans _ _ _ this hst
    · subst hj1; rw [hxl]; exact hst
  · intro k hk
    rw [htk] at hk
    rcases List.mem_append.1 hk with hk | hk
    · exact h.mem k hk
    · rw [List.mem_singleton.1 hk]; exact List.getElem_mem hi
  · rw [Nat.add_sub_cancel, Nat.add_sub_cancel, List.getElem?_set_self hmX, List.getElem?_eq_getElem hi]
theorem own_pre {w : World} {base : Nat} {e : TypeId} {a : Option Addr} {n c : Nat} {xs : List Value} (h : Own w base e (.slice a n c) xs) (k : Nat) (hk : k ≤ xs.length) : Own w base e (.slice a k c) (xs.take k) := by
  rcases h with ⟨hv, h0⟩ | ⟨g, cap, cur, hv, hb, hg, hl, hc, hm, ht⟩
  · injection hv with h1 h2 h3
    subst h1 h3 h0
    have : k = 0 := by simpa using hk
    subst this
    exact .inl ⟨rfl, by simp⟩
  · injection hv with h1 h2 h3
    subst h1 h3
    have hkl : (xs.take k).length = k := by rw [List.length_take]; omega
    exact .inr ⟨g, c, cur, by rw [hkl], hb, hg, by omega, hc, hm, by rw [hkl, ← ht, List.take_take, Nat.min_eq_left hk]⟩
theorem ba_strOf (s : ByteArray) : s = strOf s.data.toList := by
  obtain ⟨⟨l⟩⟩ := s; rfl
/-- What sorted gives: keys of 1 .. 65 bytes, rising, no more than there were. -/
def SortedPost (w : World) (n : Nat) (e : Ending) (w' : World) : Prop :=
  ∃ (v : Value) (ks : List (List UInt8)), e = .returned v ∧ Own w' w.heap.size 9 v (keysV ks) ∧ (∀ k ∈ ks, okKey k) ∧ ks.Pairwise (fun x y => Go.Op.bytesLess x y = true) ∧ ks.length ≤ n ∧ Below w.heap.size w w'
set_option maxRecDepth 100000 in
set_option maxHeartbeats 2000000 in
theorem sorted_any (w : World) (a : Option Addr) (n c : Nat) (ls : List ByteArray) (hr : Rd w (.slice a n c) (ls.map Value.string)) (hll : ls.length ≤ 100000000) :
    Calls Tryd.prog 25 #[.slice a n c] w (SortedPost w ls.length) := by
  have hnl : n = ls.length := by obtain ⟨A, c', h, _⟩ := hr; injection h with _ h _; rw [h, List.length_map]
  subst hnl
  have HR := Lib.hid hr
  clear hr
  go_enter Tryd.func25, Tryd.ntmps25
  go_wp2
  go_loopw [3, 11] (fun s3 s11 wr => ∃ (i : Nat) (es : List (List UInt8)) (A : Option Addr) (N C : Nat), s3 = .slice A N C ∧ s11 = .int .i64 i ∧ i ≤ ls.length ∧ N = es.length ∧ es.length ≤ i ∧ Own wr w.heap.size 9 (.slice A N C) (keysV es) ∧ (∀ k ∈ es, okKey k) ∧ Below w.heap.size w wr) (fun _ s11 _ => ls.length - (intOf s11).toNat)
  case atStart => exact ⟨0, [], none, 0, 0, rfl, rfl, Nat.zero_le _, rfl, Nat.le_refl _, own_nil _ _ _, fun k h => (by cases h), Below.refl _ _⟩
  case round =>
    obtain ⟨i, es, A, N, C, rfl, rfl, hi, hN, hei, ho, hok, hb⟩ := hrel
    by_cases hlt : i < ls.length
    · obtain ⟨A0, c0, hv0, _, hg0⟩ := HR.out.below hb (Nat.le_refl _)
      injection hv0 with e1 e2 e3
      subst e1 e3
      obtain ⟨b, o, rfl, hc⟩ := hg0 (by rw [List.length_map]; omega)
      have hx := hc i (.string ls[i]) (by simp [hlt])
      obtain ⟨s, hs⟩ : ∃ s, ls[i] = s := ⟨_, rfl⟩
      rw [hs] at hx
      have i1 : (i : Int) < (ls.length : Int) := by omega
      have hsl : s.data.toList.length = s.size := Array.length_toList (xs := s.data)
      have hsz := hb.size
      have HO := Lib.hid ho
      have HB := Lib.hid hb
      have HOK := Lib.hid hok
      have HN := Lib.hid hN
      have HSL := Lib.hid hsl
      clear ho hb hok hN hc hs hsl e2 hg0
      by_cases h0 : 0 < s.size
      · have t0 : decide (0 < s.size) = true := decide_eq_true h0
        by_cases h65 : s.size ≤ 65
        · have t1 : (s.size : Int) ≤ 65 := by omega
          have hl : (keysV es).length < 1000000000000 := by rw [keysV_length]; omega
          have HL := Lib.hid hl
          clear hl
          go_wp2_with (at_builtin; with_reducible refine ap1' elKey rfl HO.out HL.out hsz rfl _ _ rfl rfl rfl ?_)
          intro v' w3 g1 g2 g3 g4
          have hb3 := HB.out.grown g4 hsz (fun k hk => (HO.out.lt k hk).1)
          obtain ⟨a3, n3, c3, rfl⟩ := own_sl g1
          have hn3 := g1.len
          rw [List.length_append, keysV_length, List.length_singleton] at hn3
          have g5 := own_to g1 (ys := keysV (es ++ [s.data.toList])) (by rw [keysV_snoc, ← ba_strOf])
          have HG5 := Lib.hid g5
          have HB3 := Lib.hid hb3
          clear g1 g2 g3 g4 g5 hb3 t0 t1
          go_wp2
          go_roundw
          case rel => exact ⟨i + 1, es ++ [s.data.toList], a3, n3, c3, rfl, by go_num, by omega, by rw [List.length_append, List.length_singleton]; exact hn3, by rw [List.length_append, List.length_singleton]; omega, HG5.out, fun k hk => by
            rcases List.mem_append.1 hk with hk | hk
            · exact HOK.out k hk
            · rw [List.mem_singleton.1 hk]; exact ⟨by rw [HSL.out]; exact h0, by rw [HSL.out]; exact h65⟩, HB3.out⟩
          case measure => simp [intOf]; omega
        · have t1 : ¬ ((s.size : Int) ≤ 65) := by omega
          go_wp2
          go_roundw
          case rel => exact ⟨i + 1, es, A, N, C, rfl, by go_num, by omega, HN.out, by omega, HO.out, HOK.out, HB.out⟩
          case measure => simp [intOf]; omega
      · have t0 : decide (0 < s.size) = false := decide_eq_false h0
        go_wp2
        go_roundw
        case rel => exact ⟨i + 1, es, A, N, C, rfl, by go_num, by omega, HN.out, by omega, HO.out, HOK.out, HB.out⟩
        case measure => simp [intOf]; omega
    · have i1 : ¬ ((i : Int) < (ls.length : Int)) := by omega
      have C1 := ssort_own wr w.heap.size A N C es ho (by omega)
      have hlm : (es.mergeSort fun x y => decide (x ≤ y)).length = es.length := by simp
      have hokm : ∀ k ∈ (es.mergeSort fun x y => decide (x ≤ y)), okKey k := fun k hk => hok k (List.mem_mergeSort.1 hk)
      have hsm := sort_le es
      obtain ⟨ms, hms⟩ : ∃ ms, (es.mergeSort fun x y => decide (x ≤ y)) = ms := ⟨_, rfl⟩
      rw [hms] at C1 hlm hokm hsm
      have hsz := hb.size
      have hNm : N = ms.length := by omega
      have HO := Lib.hid ho
      have HB := Lib.hid hb
      have HOKM := Lib.hid hokm
      have HSM := Lib.hid hsm
      have hml : ms.length ≤ ls.length := by omega
      clear ho hb hok hokm hsm hms hN hlm hei
      subst hNm
      go_wp2_with fail
      refine C1.mono ?_
      rintro e w2 ⟨rfl, ho2, hg2⟩
      clear C1 i1
      have hb2 := HB.out.grown hg2 hsz (fun k hk => (HO.out.lt k hk).1)
      have HO2 := Lib.hid ho2
      have HB2 := Lib.hid hb2
      clear ho2 hg2 hb2
      go_wp2
      obtain ⟨w1, rfl⟩ : ∃ w1 : World, w1 = wr := ⟨_, rfl⟩
      go_loopw [6, 32] (fun s6 s32 wr => ∃ (j m : Nat) (X : List (List UInt8)), s6 = .int .i64 m ∧ s32 = .int .i64 j ∧ DD ms X j m ∧ Own wr w.heap.size 9 (.slice A ms.length C) (keysV X) ∧ Below w.heap.size w wr) (fun _ s32 _ => ms.length - (intOf s32).toNat)
      case atStart => exact ⟨0, 0, ms, rfl, rfl, ⟨rfl, Nat.le_refl _, Nat.zero_le _, fun _ _ => rfl, by simp, fun k h => by simp at h, fun h => h, fun h => absurd h (by decide)⟩, HO2.out, HB2.out⟩
      case round =>
        clear HO2 HB2 HO HB
        obtain ⟨j, m, X, rfl, rfl, hD, ho, hb⟩ := hrel
        have hX := hD.len
        have hmj := hD.le
        have hjn := hD.hi
        by_cases hlt2 : j < ms.length
        · obtain ⟨g, rfl⟩ := ho.someAt (by omega)
          have hXj : X[j]? = some ms[j] := by rw [hD.rest j (Nat.le_refl _), List.getElem?_eq_getElem hlt2]
          have hXj2 : X[j]'(by omega) = ms[j] := by rw [List.getElem?_eq_getElem (by omega)] at hXj; exact Option.some.inj hXj
          have hx := ho.get (keysV_get (l := X) (j := j) (by omega))
          rw [hXj2] at hx
          have hfm := ho.frozen m
          have hcm := ho.get (keysV_get (l := X) (j := m) (by omega))
          have hoS := ho.set m (.string (strOf ms[j]))
          rw [← keysV_set] at hoS
          have hbS := hb.setCell (p := ⟨g, m, none⟩) (ho.lt g rfl).1 (.string (strOf ms[j]))
          have HOS := Lib.hid hoS
          have HBS := Lib.hid hbS
          have hput := fun hn => hD.put hlt2 HSM.out hn
          have hskip := fun hm he => hD.skip hlt2 hm he
          rw [List.getElem?_eq_getElem hlt2] at hput hskip
          have HPUT := Lib.hid hput
          have HSKIP := Lib.hid hskip
          have HO := Lib.hid ho
          have HB := Lib.hid hb
          have hpos := hD.pos
          obtain ⟨kx, hkx⟩ : ∃ kx, ms[j] = kx := ⟨_, rfl⟩
          obtain ⟨km, hkm⟩ : ∃ km, X[m]'(by omega) = km := ⟨_, rfl⟩
          rw [hkx] at hx HPUT HSKIP HOS HBS
          rw [hkm] at hcm
          have j1 : (j : Int) < (ms.length : Int) := by omega
          have j2 : (m : Int) < (ms.length : Int) := by omega
          clear hoS hbS hput hskip hD ho hb hXj hXj2 hkx hkm
          by_cases hj0 : j = 0
          · subst hj0
            obtain rfl : m = 0 := by omega
            clear hpos hmj
            go_wp2
            go_roundw
            case rel => exact ⟨1, 1, X.set 0 kx, rfl, rfl, HPUT.out (fun h => absurd h (by decide)), HOS.out, HBS.out⟩
            case measure => simp [intOf]; omega
          · have hm0 : 0 < m := hpos (by omega)
            obtain ⟨m', rfl⟩ : ∃ m', m = m' + 1 := ⟨m - 1, by omega⟩
            have hcp := HO.out.get (keysV_get (l := X) (j := m') (by omega))
            obtain ⟨kp, hkp⟩ : ∃ kp, X[m']'(by omega) = kp := ⟨_, rfl⟩
            have hXp : X[m' + 1 - 1]? = some kp := by rw [Nat.add_sub_cancel, List.getElem?_eq_getElem (by omega), hkp]
            rw [hkp] at hcp
            have t0 : ((j : Int) == 0) = false := by rw [beq_eq_false_iff_ne]; omega
            have e6 := strOf_beq kx kp
            have hw : IntKind.i64.wrap (((m' + 1 : Nat) : Int) - 1) = (m' : Int) := by rw [IntKind.wrap_i64]; omega
            have j3 : (m' : Int) < (ms.length : Int) := by omega
            clear hpos hkp
            by_cases hk : kx = kp
            · have e7 : ((strOf kx).toList == (strOf kp).toList) = true := by rw [e6, hk, beq_self_eq_true]
              have HXP := Lib.hid hXp
              have HK := Lib.hid hk
              clear e6 hk hXp
              go_wp2
              go_roundw
              case rel => exact ⟨j + 1, m' + 1, X, rfl, by go_num, HSKIP.out (by omega) (by rw [HXP.out, HK.out]), HO.out, HB.out⟩
              case measure => simp [intOf]; omega
            · have e7 : ((strOf kx).toList == (strOf kp).toList) = false := by rw [e6, beq_eq_false_iff_ne]; exact hk
              have HXP := Lib.hid hXp
              have HK := Lib.hid hk
              clear e6 hk hXp
              go_wp2
              go_roundw
              case rel => exact ⟨j + 1, m' + 1 + 1, X.set (m' + 1) kx, by go_num, by go_num, HPUT.out (fun _ h => by rw [HXP.out] at h; exact HK.out (Option.some.inj h).symm), HOS.out, HBS.out⟩
              case measure => simp [intOf]; omega
        · have j1 : ¬ ((j : Int) < (ms.length : Int)) := by omega
          have hcap := own_cap ho
          have hmC : m ≤ C := by omega
          have hop := own_pre ho m (by rw [keysV_length]; omega)
          have hkt : (keysV X).take m = keysV (X.take m) := by simp [keysV, List.map_take]
          rw [hkt] at hop
          have HOP := Lib.hid hop
          have HB := Lib.hid hb
          have HD := Lib.hid hD
          clear hop hkt ho hb hD
          go_wp2
          go_ret
          exact ⟨_, X.take m, rfl, HOP.out, fun k hk => HOKM.out k (HD.out.mem k hk), HD.out.asc, by rw [List.length_take]; omega, HB.out⟩
end Go.Proofs.YtfeldllcpeibcaaDoor
