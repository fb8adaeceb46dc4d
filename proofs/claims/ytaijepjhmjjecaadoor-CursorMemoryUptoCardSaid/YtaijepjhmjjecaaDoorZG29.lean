/- Merged: Ints, PhL, SpL. -/
import Derived.Test.YtaijepjhmjjecaaDoorZRPh
import Derived.Test.YtaijepjhmjjecaaDoorZG21
import Derived.Test.YtaijepjhmjjecaaDoorZPhW
import Derived.Test.YtaijepjhmjjecaaDoorZOwnI
import Derived.Test.YtaijepjhmjjecaaDoorZG26
/- cursor: the law's ints; lists of lists of the call's own. -/
namespace Go.Proofs.YtaijepjhmjjecaaDoor
set_option linter.unusedVariables false
open Go.ChangeShapes Go.WideShapes Go.ChangeAt Go.RowKit

/-- A number as ints brings it into 0 .. m. -/
def modI (m : Nat) (x : Int) : Int := (x % 18446744073709551616) % ((m : Int) + 1)
theorem modI_in (m : Nat) (x : Int) : 0 ≤ modI m x ∧ modI m x ≤ m := by
  unfold modI
  have h1 := Int.emod_nonneg (x % 18446744073709551616) (show ((m : Int) + 1) ≠ 0 by omega)
  have h2 := Int.emod_lt_of_pos (x % 18446744073709551616) (show 0 < ((m : Int) + 1) by omega)
  omega
def modL (m : Nat) (l : List Int) : List Int := l.map (modI m)
theorem modL_length (m : Nat) (l : List Int) : (modL m l).length = l.length := by simp [modL]
theorem elI9 : Elem Tryd.prog 23 3 (.int .i64 0) 8 := ⟨Tryd.underlying23, by kernel_rfl, rfl, by decide⟩
theorem intL_snoc9 (l : List Int) (z : Int) : intL (l ++ [z]) = intL l ++ [.int .i64 z] := by rw [intL_append]; rfl
theorem map_take_succ {α β : Type} (f : α → β) (l : List α) {i : Nat} (h : i < l.length) : (l.take (i + 1)).map f = (l.take i).map f ++ [f l[i]] := by
  rw [List.take_succ_eq_append_getElem h, List.map_append]; rfl
set_option maxRecDepth 100000 in
theorem ints_any (w : World) (a : Option Addr) (n c : Nat) (l : List Int) (hr : Rd w (.slice a n c) (intL l)) (hl : l.length ≤ 10000000) (m : Nat) (hm : m ≤ 1000) :
    Calls Tryd.prog 12 #[.slice a n c, .int .i64 (m : Nat)] w fun e w' => ∃ A C, e = .returned (.slice A l.length C) ∧ Own w' w.heap.size 3 (.slice A l.length C) (intL (modL m l)) ∧ Below w.heap.size w w' := by
  obtain ⟨rfl, hc⟩ := rd_il hr
  have HR := Lib.hid hr
  have HC := Lib.hid hc
  have s1 : IntKind.i64.wrap ((m : Int) + 1) = ((m + 1 : Nat) : Int) := by rw [IntKind.wrap_i64]; omega
  have s2 : IntKind.u64.wrap ((m + 1 : Nat) : Int) = ((m + 1 : Nat) : Int) := by rw [IntKind.wrap_u64]; omega
  clear hr hc
  go_enter Tryd.func12, Tryd.ntmps12
  go_wp2
  go_loopw [5, 7, 10] (fun s5 s7 s10 wr => ∃ (i : Nat) (A : Option Addr) (C : Nat) (t7 : Value), s5 = .slice A i C ∧ s7 = t7 ∧ s10 = .int .i64 i ∧ i ≤ l.length ∧ RowKit.Hid (Own wr w.heap.size 3 (.slice A i C) (intL (modL m (l.take i)))) ∧ RowKit.Hid (Below w.heap.size w wr)) (fun _ _ s10 _ => l.length - (intOf s10).toNat)
  case atStart => exact ⟨0, none, 0, _, rfl, rfl, rfl, Nat.zero_le _, Lib.hid (own_nil _ _ _), Lib.hid (Below.refl _ _)⟩
  case round =>
    obtain ⟨i, A, C, t7, rfl, rfl, rfl, hi, HO, HB⟩ := hrel
    by_cases hlt : i < l.length
    · obtain ⟨b, o, rfl, hc⟩ := HC.out (by omega)
      have c1 := (HB.out.cell (World.block_lt_of_cell? w _ (hc i hlt))).trans (hc i hlt)
      have hmt := map_take_succ (modI m) l hlt
      obtain ⟨x, hx⟩ : ∃ x, l[i] = x := ⟨_, rfl⟩
      rw [hx] at c1 hmt
      have hin := modI_in m x
      obtain ⟨y, hy⟩ : ∃ y, modI m x = y := ⟨_, rfl⟩
      rw [hy] at hmt hin
      have i1 : (i : Int) < (l.length : Int) := by omega
      have s3 : IntKind.u64.wrap x = x % 18446744073709551616 := IntKind.wrap_u64 x
      obtain ⟨X, hX⟩ : ∃ X, x % 18446744073709551616 = X := ⟨_, rfl⟩
      have hX0 : 0 ≤ X := by omega
      have hyX : X % ((m + 1 : Nat) : Int) = y := by rw [← hy, ← hX]; unfold modI; rfl
      rw [hX] at s3
      have s4 : X.tmod ((m + 1 : Nat) : Int) = y := by rw [Int.tmod_eq_emod_of_nonneg hX0]; exact hyX
      have s5 : IntKind.u64.wrap y = y := by rw [IntKind.wrap_u64]; omega
      have s6 : IntKind.i64.wrap y = y := by rw [IntKind.wrap_i64]; omega
      have h7 : wrap64 (X.tmod ((m : Int) + 1)) = y := by
        have h9 := s4
        rw [show ((m + 1 : Nat) : Int) = (m : Int) + 1 by omega] at h9
        rw [h9]
        exact IntWalk.wrap64_in _ (by omega)
      have H7 := Lib.hid h7
      have d1 : (((m + 1 : Nat) : Int) == 0) = false := beq_false_of_ne (by omega)
      have hl9 : (intL (modL m (l.take i))).length < 1000000000000 := by rw [intL_length, modL_length, List.length_take]; omega
      have hz := HB.out.size
      have HMT := Lib.hid hmt
      have HL9 := Lib.hid hl9
      clear hx hy hX hX0 hyX hc hmt hl9 hin hlt h7
      go_wp2_with (at_builtin; with_reducible refine ap1' elI9 rfl HO.out HL9.out hz rfl _ _ rfl rfl rfl ?_)
      intro v' w3 g1 g2 g3 g4
      have hb3 := HB.out.grown g4 hz (fun k hk => (HO.out.lt k hk).1)
      have g5 : Own w3 w.heap.size 3 v' (intL (modL m (l.take (i + 1)))) := own_to g1 (by unfold modL; rw [HMT.out, intL_snoc9, ← H7.out])
      obtain ⟨A3, C3, hv⟩ := own_slice g5
      have hln : (intL (modL m (l.take (i + 1)))).length = i + 1 := by rw [intL_length, modL_length, List.length_take]; omega
      rw [hln] at hv
      subst hv
      have HO3 := Lib.hid g5
      have HB3 := Lib.hid hb3
      clear g1 g2 g3 g4 g5 hb3 hln HO HB HL9 HMT s3 s4 s5 s6
      go_wp2
      go_roundw
      case rel => exact ⟨i + 1, A3, C3, _, rfl, rfl, by go_num, by omega, HO3, HB3⟩
      case measure => simp [intOf]; omega
    · obtain rfl : i = l.length := by omega
      have i1 : ¬ ((l.length : Int) < (l.length : Int)) := by omega
      rw [List.take_length] at HO
      clear hlt
      go_wp2
      go_ret
      exact ⟨A, C, rfl, HO.out, HB.out⟩
end Go.Proofs.YtaijepjhmjjecaaDoor

/- cursor: lists of lists, plain and in memory, for the rules of the phrase. -/
namespace Go.Proofs.YtaijepjhmjjecaaDoor
set_option linter.unusedVariables false
open Go.ChangeShapes Go.WideShapes Go.ChangeAt Go.RowKit

theorem rdll_of {w : World} {base : Nat} {a : Option Addr} {n c : Nat} {vs : List Value} {ls : List (List Int)} (h : Own w base 23 (.slice a n c) vs) (hl : vs.length = ls.length) (hi : ∀ (k : Nat) (h1 : k < vs.length) (h2 : k < ls.length), Rd w vs[k] (intL ls[k])) : RdLL w a n ls := by
  have hn := h.len
  refine ⟨by omega, fun h0 => ?_⟩
  obtain ⟨g, rfl⟩ := h.someAt (by omega)
  refine ⟨g, 0, rfl, fun i hi' => ?_⟩
  have hr := hi i (by omega) hi'
  have h9 := h.get (j := i) (x := vs[i]) (List.getElem?_eq_getElem (by omega))
  obtain ⟨A, C, e, h8⟩ := id hr
  rw [intL_length] at e
  rw [e] at h9 hr
  exact ⟨A, C, by rw [Nat.zero_add]; exact h9, hr⟩
theorem MvS.rdll {w : World} {base : Nat} {a : Option Addr} {n c : Nat} {vs : List Value} {ls : List (List Int)} (h : MvS w base (.slice a n c) vs ls) : RdLL w a n ls :=
  rdll_of h.top h.len (fun k h1 h2 => (h.own k h1 h2).rd)
theorem rd_takeI {w : World} {a : Option Addr} {n c : Nat} {l : List Int} (h : Rd w (.slice a n c) (intL l)) (k : Nat) (hk : k ≤ l.length) : Rd w (.slice a k c) (intL (l.take k)) := by
  obtain ⟨A, C, e, h1, h2⟩ := h
  injection e with e1 e2 e3
  subst e1 e3
  have hlen : (intL (l.take k)).length = k := by rw [intL_length, List.length_take]; omega
  refine ⟨a, c, by rw [hlen], by rw [hlen]; rw [intL_length] at h1; omega, fun h0 => ?_⟩
  rw [hlen] at h0
  obtain ⟨b, o, e, hg⟩ := h2 (by rw [intL_length]; omega)
  refine ⟨b, o, e, fun j x hx => hg j x ?_⟩
  have e9 : intL (l.take k) = (intL l).take k := by simp [intL, List.map_take]
  rw [e9] at hx
  rw [List.getElem?_take] at hx
  split at hx
  · exact hx
  · cases hx
theorem rdll_take {w : World} {a : Option Addr} {n : Nat} {ls : List (List Int)} (h : RdLL w a n ls) (k : Nat) (hk : k ≤ ls.length) : RdLL w a k (ls.take k) := by
  refine ⟨by rw [List.length_take]; omega, fun h0 => ?_⟩
  rw [List.length_take] at h0
  obtain ⟨b, o, e, hg⟩ := h.2 (by omega)
  refine ⟨b, o, e, fun i hi => ?_⟩
  rw [List.length_take] at hi
  have := hg i (by omega)
  simpa using this
theorem kept_types {w : World} {b b' : Nat} {e e' : TypeId} {v v' : Value} {xs xs' : List Value} (h : Own w b e v xs) (h' : Own w b' e' v' xs') (hne : e ≠ e') : v.ownBlock = none ∨ v.ownBlock ≠ v'.ownBlock := by
  cases hb : v.ownBlock with
  | none => exact .inl rfl
  | some q => exact .inr (fun e9 => own_types h h' hne hb e9.symm)
theorem kept_sep {v v' : Value} (h : ∀ b, v.ownBlock = some b → v'.ownBlock ≠ some b) : v.ownBlock = none ∨ v.ownBlock ≠ v'.ownBlock := by
  cases hb : v.ownBlock with
  | none => exact .inl rfl
  | some q => exact .inr (fun e9 => h q hb e9.symm)
theorem take_map_snoc {O Ok : List Int} {k : Int} (hk : Ok = O.map (· + k)) {n m : Nat} (hn : O.length = n) (h : m < n) : Ok.take (n - m) = Ok.take (n - (m + 1)) ++ [(O[n - 1 - m]'(by omega)) + k] := by
  have e1 : n - m = (n - 1 - m) + 1 := by omega
  have e2 : n - (m + 1) = n - 1 - m := by omega
  have hl : Ok.length = n := by rw [hk, List.length_map]; exact hn
  rw [e1, e2, List.take_succ_eq_append_getElem (by omega)]
  subst hk
  simp
theorem drop_rev {α : Type} (l : List α) {j : Nat} (h : j < l.length) : (l.drop j).reverse = (l.drop (j + 1)).reverse ++ [l[j]] := by
  rw [List.drop_eq_getElem_cons h, List.reverse_cons]
/-- Is the number new behind these? -/
def isNew (l : List Int) (x : Int) : Bool := !(l.contains x)
theorem isNew_nil (x : Int) : isNew [] x = true := rfl
theorem isNew_snoc (l : List Int) (y x : Int) : isNew (l ++ [y]) x = (isNew l x && !(y == x)) := by
  unfold isNew
  by_cases h1 : x ∈ l
  · have e1 : l.contains x = true := by simpa using h1
    have e2 : (l ++ [y]).contains x = true := by simp [h1]
    rw [e1, e2]; rfl
  · have e1 : l.contains x = false := by simpa using h1
    by_cases h2 : y = x
    · subst h2
      have e2 : (l ++ [y]).contains y = true := by simp
      have e3 : (y == y) = true := by simp
      rw [e1, e2, e3]; rfl
    · have e2 : (l ++ [y]).contains x = false := by simp [h1]; exact fun h => h2 h.symm
      have e3 : (y == x) = false := by simpa using h2
      rw [e1, e2, e3]; rfl
theorem rise_count (l : List Int) {i : Nat} (h : i < l.length) : (riseOf (l.take (i + 1))).length = (riseOf (l.take i)).length + if isNew (l.take i) l[i] then 1 else 0 := by
  rw [List.take_succ_eq_append_getElem h, riseOf_snoc, insI_len _ _ (riseOf_rise _)]
  by_cases hm : l[i] ∈ l.take i
  · rw [if_pos ((riseOf_mem _ _).2 hm)]
    have : isNew (l.take i) l[i] = false := by unfold isNew; simpa using hm
    rw [this]; simp
  · rw [if_neg (fun h9 => hm ((riseOf_mem _ _).1 h9))]
    have : isNew (l.take i) l[i] = true := by unfold isNew; simpa using hm
    rw [this]; simp
theorem laidL_take (k : Int) : ∀ (ls : List (List Int)) (os : List Int) (i : Nat) (h : i < ls.length) (h2 : i < os.length), laidL k (ls.take (i + 1)) (os.take (i + 1)) = laidL k (ls.take i) (os.take i) ++ [ls[i] ++ [100 + k + os[i]]]
  | l :: ls, o :: os, 0, _, _ => by simp [laidL]
  | l :: ls, o :: os, i + 1, h, h2 => by
    rw [List.take_succ_cons, List.take_succ_cons, List.take_succ_cons, List.take_succ_cons, laidL, laidL, laidL_take k ls os i (by simpa using h) (by simpa using h2)]
    simp
theorem laidL_length (k : Int) : ∀ (ls : List (List Int)) (os : List Int), ls.length = os.length → (laidL k ls os).length = ls.length
  | [], [], _ => rfl
  | l :: ls, o :: os, h => by rw [laidL, List.length_cons, List.length_cons, laidL_length k ls os (by simpa using h)]
theorem laidL_sum (k : Int) : ∀ (ls : List (List Int)) (os : List Int), ls.length = os.length → sumL (laidL k ls os) = sumL ls + ls.length
  | [], [], _ => rfl
  | l :: ls, o :: os, h => by
    have ih := laidL_sum k ls os (by simpa using h)
    unfold sumL at ih ⊢
    rw [laidL, List.map_cons, List.map_cons, List.sum_cons, List.sum_cons, ih, List.length_append, List.length_cons]
    simp; omega
theorem laidL_mem (k : Int) : ∀ (ls : List (List Int)) (os : List Int), ∀ m ∈ laidL k ls os, ∃ l ∈ ls, ∃ o ∈ os, m = l ++ [100 + k + o]
  | l :: ls, o :: os, m, hm => by
    rw [laidL] at hm
    rcases List.mem_cons.1 hm with rfl | hm
    · exact ⟨l, by simp, o, by simp, rfl⟩
    · obtain ⟨l', h1, o', h2, h3⟩ := laidL_mem k ls os m hm
      exact ⟨l', List.mem_cons_of_mem _ h1, o', List.mem_cons_of_mem _ h2, h3⟩
  | [], [], m, hm => by cases hm
  | [], _ :: _, m, hm => by cases hm
  | _ :: _, [], m, hm => by cases hm
theorem movedV_mem : ∀ (ls : List (List Int)) (os : List Int), ∀ m ∈ movedV ls os, ∃ l ∈ ls, ∃ o ∈ os, m = shiftL o l
  | l :: ls, o :: os, m, hm => by
    rw [movedV] at hm
    rcases List.mem_cons.1 hm with rfl | hm
    · exact ⟨l, by simp, o, by simp, rfl⟩
    · obtain ⟨l', h1, o', h2, h3⟩ := movedV_mem ls os m hm
      exact ⟨l', List.mem_cons_of_mem _ h1, o', List.mem_cons_of_mem _ h2, h3⟩
  | [], [], m, hm => by simp [movedV] at hm
  | [], _ :: _, m, hm => by simp [movedV] at hm
  | _ :: _, [], m, hm => by simp [movedV] at hm
/-- The lists of a phrase of the law: numbers from 0 to 60, offsets from 0 to 9. -/
structure PhIn (ls : List (List Int)) (os : List Int) : Prop where
  ne : ls ≠ []
  len : ls.length = os.length
  hl : ∀ l ∈ ls, ∀ x ∈ l, 0 ≤ x ∧ x ≤ 60
  ho : ∀ o ∈ os, 0 ≤ o ∧ o ≤ 9
theorem PhIn.ok {ls : List (List Int)} {os : List Int} (h : PhIn ls os) {s : Int} (h1 : 0 ≤ s) (h2 : s ≤ 100) : phOk ls os s = true :=
  phOk_mk h.ne h.len h1 (by omega) (fun o ho => by have := h.ho o ho; omega) (fun l hl x hx => by have := h.hl l hl x hx; omega)
theorem PhIn.shift {ls : List (List Int)} {os : List Int} (h : PhIn ls os) {s k : Int} (h1 : 0 ≤ s) (h2 : s ≤ 100) (hk0 : 0 ≤ k) (hk : k ≤ 49) : phV ls (os.map (· + k)) s = phV ls os s :=
  phV_shift (h.ok h1 h2) (phOk_mk h.ne (by rw [List.length_map]; exact h.len) h1 (by omega) (fun o ho => by
    obtain ⟨o', ho', rfl⟩ := List.mem_map.1 ho
    have := h.ho o' ho'
    show 0 ≤ o' + k ∧ o' + k ≤ _
    omega) (fun l hl x hx => by have := h.hl l hl x hx; omega))
theorem PhIn.laid {ls : List (List Int)} {os : List Int} (h : PhIn ls os) {k : Int} (hk0 : 0 ≤ k) (hk : k ≤ 49) : phV (laidL k ls os) os 0 = phV ls os 0 + 1 := by
  refine phV_laid (h.ok (by omega) (by omega)) (phOk_mk (fun e => ?_) (by rw [laidL_length k ls os h.len]; exact h.len) (by omega) (by omega) (fun o ho => by have := h.ho o ho; omega) (fun m hm x hx => ?_)) (fun m hm x hx => ?_)
  · have h9 := laidL_length k ls os h.len
    rw [e] at h9
    exact h.ne (List.eq_nil_of_length_eq_zero h9.symm)
  · obtain ⟨l, hl, o, ho, rfl⟩ := laidL_mem k ls os m hm
    have := h.ho o ho
    rcases List.mem_append.1 hx with hx | hx
    · have := h.hl l hl x hx; omega
    · rw [List.mem_singleton.1 hx]; omega
  · obtain ⟨l, hl, o, ho, rfl⟩ := movedV_mem ls os m hm
    have := h.ho o ho
    unfold shiftL at hx
    obtain ⟨y, hy, rfl⟩ := List.mem_map.1 hx
    have := h.hl l hl y hy
    show y - o < _
    omega
theorem PhIn.one {ls : List (List Int)} {os : List Int} (h : PhIn ls os) {s : Int} (h1 : 0 ≤ s) (h2 : s ≤ 100) (h3 : 0 < ls.length) : phV (ls.take 1) (os.take 1) s = (riseOf ls[0]).length := by
  have h4 := h.len
  cases ls with
  | nil => simp at h3
  | cons l r =>
    cases os with
    | nil => simp at h4
    | cons o q =>
      exact phV_one (phOk_mk (by simp) rfl h1 (by omega) (fun o' ho' => by
        rw [List.mem_singleton.1 ho']; have := h.ho o (by simp); omega) (fun l' hl' x hx => by
        rw [List.mem_singleton.1 hl'] at hx; have := h.hl l (by simp) x hx; omega))
theorem sumL_take1 (ls : List (List Int)) : sumL (ls.take 1) ≤ sumL ls := sumL_take_le ls 1
theorem sumL_rev (ls : List (List Int)) : sumL ls.reverse = sumL ls := by unfold sumL; rw [List.map_reverse, List.sum_reverse]
theorem sumL_modL (m : Nat) (ls : List (List Int)) : sumL (ls.map (modL m)) = sumL ls := by
  unfold sumL
  rw [List.map_map]
  congr 1
  exact List.map_congr_left fun l _ => by simp [modL_length]
theorem phIn_mod {ls : List (List Int)} {os : List Int} (hl : ls.length = os.length) (h0 : 0 < ls.length) : PhIn (ls.map (modL 60)) (modL 9 os) :=
  ⟨fun e => by rw [List.map_eq_nil_iff] at e; rw [e] at h0; simp at h0, by rw [List.length_map, modL_length]; exact hl, fun l hl x hx => by
    obtain ⟨l', _, rfl⟩ := List.mem_map.1 hl
    obtain ⟨y, _, rfl⟩ := List.mem_map.1 hx
    exact modI_in 60 y, fun o ho => by
    obtain ⟨y, _, rfl⟩ := List.mem_map.1 ho
    exact modI_in 9 y⟩
theorem rdll_rev {w wr : World} {base base' B : Nat} {A : Value} {vs : List Value} {L : List (List Int)} (hm : MvS w base A vs L) (hb : Below B w wr) (hB : w.heap.size ≤ B) {a : Option Addr} {n c : Nat} (h1 : Own wr base' 23 (.slice a n c) vs.reverse) : RdLL wr a n L.reverse := by
  have hl := hm.len
  refine rdll_of h1 (by simpa using hl) (fun k h2 h3 => ?_)
  rw [List.length_reverse] at h2 h3
  have h4 := ((hm.own (vs.length - 1 - k) (by omega) (by omega)).below hb hB).rd
  have e1 : vs.reverse[k]'(by rw [List.length_reverse]; exact h2) = vs[vs.length - 1 - k]'(by omega) := by rw [List.getElem_reverse]
  have e2 : L.reverse[k]'(by rw [List.length_reverse]; exact h3) = L[vs.length - 1 - k]'(by omega) := by rw [List.getElem_reverse]; congr 1; omega
  rw [e1, e2]
  exact h4
theorem phV_le (ls : List (List Int)) (os : List Int) (s : Int) {n : Nat} (h : sumL ls ≤ n) : phV ls os s ≤ n := by
  unfold phV
  split
  · have h1 := cntV_le (riseOf (movedV ls os).flatten) (movedV ls os) s
    have h2 := riseOf_len_le (movedV ls os).flatten
    have h3 := movedV_flat_len ls os
    omega
  · omega
/-- The three lists of the second loop, m of the phrase's words still to come. -/
structure BkS (w wr : World) (B : Nat) (b1 b2 b3 : Value) (vs : List Value) (O Ok : List Int) (n m : Nat) : Prop where
  bel : Below B w wr
  o1 : Own wr B 23 b1 (vs.drop m).reverse
  o2 : Own wr B 3 b2 (intL (O.drop m).reverse)
  o3 : Own wr B 3 b3 (intL (Ok.take (n - m)))
  sep : ∀ b, b2.ownBlock = some b → b3.ownBlock ≠ some b
theorem BkS.put1 {w wr w' : World} {B : Nat} {b1 b2 b3 b1' : Value} {vs : List Value} {O Ok : List Int} {n m : Nat} (h : BkS w wr B b1 b2 b3 vs O Ok n m) (hz : B ≤ wr.heap.size) {v : Value}
    (h1 : Own w' B 23 b1' ((vs.drop m).reverse ++ [v])) (hg : wr.grownBy w' b1.ownBlock) : Below B w w' ∧ Own w' B 3 b2 (intL (O.drop m).reverse) ∧ Own w' B 3 b3 (intL (Ok.take (n - m))) :=
  ⟨h.bel.grown hg hz (fun q hq => (h.o1.lt q hq).1), h.o2.kept hg (kept_types h.o2 h.o1 (by decide)), h.o3.kept hg (kept_types h.o3 h.o1 (by decide))⟩
end Go.Proofs.YtaijepjhmjjecaaDoor

/- cursor: lists with spare room, one by one of the call's own (for CursorMemory). -/
namespace Go.Proofs.YtaijepjhmjjecaaDoor
set_option linter.unusedVariables false
open Go.ChangeShapes Go.WideShapes Go.ChangeAt Go.RowKit

/-- N lists with eighty places of room behind each. -/
structure SpL (w : World) (B N : Nat) (A : Nat → Option Addr) (C : Nat → Nat) (len : Nat → Nat) (ys : Nat → List Int) : Prop where
  ow : OwnLI w B N (fun k => .slice (A k) (len k + 80) (C k)) ys
  ln : ∀ k, k < N → (ys k).length = len k + 80
theorem SpL.nil (w : World) (B : Nat) (A : Nat → Option Addr) (C : Nat → Nat) (len : Nat → Nat) (ys : Nat → List Int) : SpL w B 0 A C len ys :=
  ⟨⟨fun k hk => absurd hk (Nat.not_lt_zero _), fun k l b hk => absurd hk (Nat.not_lt_zero _)⟩, fun k hk => absurd hk (Nat.not_lt_zero _)⟩
theorem SpL.below {w w' : World} {B N B' : Nat} {A : Nat → Option Addr} {C : Nat → Nat} {len : Nat → Nat} {ys : Nat → List Int} (h : SpL w B N A C len ys) (hb : Below B' w w') (hB : w.heap.size ≤ B') : SpL w' B N A C len ys :=
  ⟨⟨fun k hk => (h.ow.own k hk).below hb hB, h.ow.sep⟩, h.ln⟩
theorem SpL.rd {w : World} {B N : Nat} {A : Nat → Option Addr} {C : Nat → Nat} {len : Nat → Nat} {ys : Nat → List Int} (h : SpL w B N A C len ys) {k : Nat} (hk : k < N) : Rd w (.slice (A k) (len k) (C k)) (intL ((ys k).take (len k))) :=
  rd_takeI (h.ow.own k hk).rd (len k) (by rw [h.ln k hk]; omega)
/-- A list more. -/
theorem SpL.push {w w' : World} {B i : Nat} {A : Nat → Option Addr} {C : Nat → Nat} {len : Nat → Nat} {ys : Nat → List Int} (h : SpL w B i A C len ys) (hb : Below w.heap.size w w') {A' : Option Addr} {C' : Nat} (ho : Own w' w.heap.size 3 (.slice A' (len i + 80) C') (intL (ys i))) (hB : B ≤ w.heap.size) :
    SpL w' B (i + 1) (fun k => if k < i then A k else A') (fun k => if k < i then C k else C') len ys := by
  have hln := ho.len
  rw [intL_length] at hln
  refine ⟨⟨fun k hk => ?_, fun k l b hk hl hkl hb1 hb2 => ?_⟩, fun k hk => ?_⟩
  · by_cases e : k < i
    · simp only [if_pos e]; exact (h.ow.own k e).below hb (Nat.le_refl _)
    · obtain rfl : k = i := by omega
      simp only [if_neg e]; exact own_base ho hB
  · by_cases e : k < i
    · simp only [if_pos e] at hb1
      by_cases e2 : l < i
      · simp only [if_pos e2] at hb2
        exact h.ow.sep k l b e e2 hkl hb1 hb2
      · obtain rfl : l = i := by omega
        simp only [if_neg e2] at hb2
        have h1 := ((h.ow.own k e).lt b hb1).2
        have h2 := (ho.lt b hb2).1
        omega
    · obtain rfl : k = i := by omega
      simp only [if_neg e] at hb1
      have e2 : l < k := by omega
      simp only [if_pos e2] at hb2
      have h1 := ((h.ow.own l e2).lt b hb2).2
      have h2 := (ho.lt b hb1).1
      omega
  · by_cases e : k < i
    · exact h.ln k e
    · obtain rfl : k = i := by omega
      exact hln.symm
theorem SpL.kept {w w' : World} {B N B' : Nat} {A : Nat → Option Addr} {C : Nat → Nat} {len : Nat → Nat} {ys : Nat → List Int} (h : SpL w B N A C len ys) {v : Value} {xs : List Value} (hv : Own w B' 23 v xs) (hg : w.grownBy w' v.ownBlock) : SpL w' B N A C len ys :=
  ⟨⟨fun k hk => (h.ow.own k hk).kept hg (kept_types (h.ow.own k hk) hv (by decide)), h.ow.sep⟩, h.ln⟩
/-- The row of the lists without their room. -/
def inV (A : Nat → Option Addr) (C : Nat → Nat) (len : Nat → Nat) (N : Nat) : List Value := (List.range N).map fun k => Value.slice (A k) (len k) (C k)
/-- The row of the lists with it. -/
def whV (A : Nat → Option Addr) (C : Nat → Nat) (len : Nat → Nat) (N : Nat) : List Value := (List.range N).map fun k => Value.slice (A k) (len k + 80) (C k)
theorem inV_length (A : Nat → Option Addr) (C : Nat → Nat) (len : Nat → Nat) (N : Nat) : (inV A C len N).length = N := by simp [inV]
theorem whV_length (A : Nat → Option Addr) (C : Nat → Nat) (len : Nat → Nat) (N : Nat) : (whV A C len N).length = N := by simp [whV]
theorem inV_push (A : Nat → Option Addr) (C : Nat → Nat) (len : Nat → Nat) (i : Nat) (A' : Option Addr) (C' : Nat) : inV A C len i ++ [.slice A' (len i) C'] = inV (fun k => if k < i then A k else A') (fun k => if k < i then C k else C') len (i + 1) := by
  unfold inV
  rw [List.range_succ, List.map_append]
  congr 1
  · exact List.map_congr_left fun k hk => by simp only [if_pos (List.mem_range.1 hk)]
  · simp
theorem whV_push (A : Nat → Option Addr) (C : Nat → Nat) (len : Nat → Nat) (i : Nat) (A' : Option Addr) (C' : Nat) : whV A C len i ++ [.slice A' (len i + 80) C'] = whV (fun k => if k < i then A k else A') (fun k => if k < i then C k else C') len (i + 1) := by
  unfold whV
  rw [List.range_succ, List.map_append]
  congr 1
  · exact List.map_congr_left fun k hk => by simp only [if_pos (List.mem_range.1 hk)]
  · simp
theorem inV_at (A : Nat → Option Addr) (C : Nat → Nat) (len : Nat → Nat) {N k : Nat} (hk : k < N) : (inV A C len N)[k]? = some (.slice (A k) (len k) (C k)) := by simp [inV, hk]
theorem whV_at (A : Nat → Option Addr) (C : Nat → Nat) (len : Nat → Nat) {N k : Nat} (hk : k < N) : (whV A C len N)[k]? = some (.slice (A k) (len k + 80) (C k)) := by simp [whV, hk]
theorem SpL.rdll {w : World} {B N B' : Nat} {A : Nat → Option Addr} {C : Nat → Nat} {len : Nat → Nat} {ys : Nat → List Int} (h : SpL w B N A C len ys) {a : Option Addr} {n c : Nat} (ht : Own w B' 23 (.slice a n c) (inV A C len N)) : RdLL w a n ((List.range N).map fun k => (ys k).take (len k)) := by
  refine rdll_of ht (by simp [inV]) (fun k h1 h2 => ?_)
  have hk : k < N := by simpa [inV] using h1
  have e1 : (inV A C len N)[k] = .slice (A k) (len k) (C k) := by simp [inV]
  have e2 : ((List.range N).map fun k => (ys k).take (len k))[k] = (ys k).take (len k) := by simp
  rw [e1, e2]
  exact h.rd hk
/-- A number written into list i. -/
theorem SpL.set {w : World} {B N : Nat} {A : Nat → Option Addr} {C : Nat → Nat} {len : Nat → Nat} {ys : Nat → List Int} (h : SpL w B N A C len ys) {i g : Nat} (hi : i < N) (hv : A i = some ⟨g, 0, none⟩) (j : Nat) (x : Int) :
    SpL (w.setCell ⟨g, j, none⟩ (.int .i64 x)) B N A C len (fun k => if k = i then (ys i).set j x else ys k) :=
  ⟨h.ow.set hi (show Value.slice (A i) (len i + 80) (C i) = .slice (some ⟨g, 0, none⟩) (len i + 80) (C i) by rw [hv]) j x, fun k hk => by
    by_cases e : k = i
    · subst e; rw [if_pos rfl, List.length_set]; exact h.ln k hk
    · simp only [if_neg e]; exact h.ln k hk⟩
/-- The lists of the law, one by one. -/
def lsY (ls : List (List Int)) (k : Nat) : List Int := if h : k < ls.length then ls[k] else []
theorem lsY_at (ls : List (List Int)) {k : Nat} (h : k < ls.length) : ls[k] = lsY ls k := by unfold lsY; rw [dif_pos h]
theorem lsY_all (ls : List (List Int)) : ((List.range ls.length).map fun k => (lsY ls k ++ marksI 7 0 80).take (lsY ls k).length) = ls := by
  refine List.ext_getElem (by simp) (fun k h1 h2 => ?_)
  simp only [List.getElem_map, List.getElem_range, List.take_left]
  exact (lsY_at ls h2).symm
theorem lsY_len (ls : List (List Int)) (k : Nat) : (lsY ls k).length ≤ sumL ls := by
  unfold lsY
  split
  · exact sumL_get _
  · simp
/-- The number that the law writes at place t of list q. -/
def z3 (q t : Nat) : Int := ((t + q) % 3 : Nat)
def z3L (len : Nat → Nat) (q : Nat) : List Int := (List.range (len q)).map (z3 q)
/-- The third loop: lists before k are written over, list k up to place j. -/
def In3 (w wr : World) (B N : Nat) (v1 : Value) (A : Nat → Option Addr) (C : Nat → Nat) (len : Nat → Nat) (ao : Value) (l9 : List Int) (k j : Nat) : Prop :=
  ∃ ys, SpL wr B N A C len ys ∧ Own wr B 23 v1 (inV A C len N) ∧ Own wr B 3 ao (intL l9) ∧ Below B w wr ∧ (∀ q b, q < N → A q = some ⟨b, 0, none⟩ → ao.ownBlock ≠ some b) ∧
    (∀ q, q < k → (ys q).take (len q) = z3L len q) ∧ (∀ t, t < j → (ys k)[t]? = some (z3 k t))
theorem In3.set {w wr : World} {B N : Nat} {v1 : Value} {A : Nat → Option Addr} {C : Nat → Nat} {len : Nat → Nat} {ao : Value} {l9 : List Int} {k j g : Nat} (h : In3 w wr B N v1 A C len ao l9 k j) (hk : k < N) (hj : j < len k) (hv : A k = some ⟨g, 0, none⟩) (hw : B ≤ wr.heap.size) :
    In3 w (wr.setCell ⟨g, j, none⟩ (.int .i64 (z3 k j))) B N v1 A C len ao l9 k (j + 1) := by
  obtain ⟨ys, h1, h2, h3, h4, h5, h6, h7⟩ := h
  have ho := h1.ow.own k hk
  have hb : (Value.slice (A k) (len k + 80) (C k)).ownBlock = some g := by rw [hv]; rfl
  have hg := ho.lt g hb
  refine ⟨_, h1.set hk hv j (z3 k j), h2.setOther (own_types ho h2 (by decide) hb) _, h3.setOther (h5 k g hk hv) _, ?_, h5, fun q hq => ?_, fun t ht => ?_⟩
  · exact h4.trans (eff_below (B := B) (Eff.setCell (F := fun i => i = g) (Eff.refl _ wr) (p := ⟨g, j, none⟩) (fun _ => rfl) _) hg.1 hw)
  · rw [if_neg (by omega)]; exact h6 q hq
  · rw [if_pos rfl]
    have hl := h1.ln k hk
    by_cases e : t = j
    · subst e; rw [List.getElem?_set_self (by omega)]
    · rw [List.getElem?_set_ne (fun e2 => e e2.symm)]; exact h7 t (by omega)
theorem In3.next {w wr : World} {B N : Nat} {v1 : Value} {A : Nat → Option Addr} {C : Nat → Nat} {len : Nat → Nat} {ao : Value} {l9 : List Int} {k : Nat} (h : In3 w wr B N v1 A C len ao l9 k (len k)) (hk : k < N) : In3 w wr B N v1 A C len ao l9 (k + 1) 0 := by
  obtain ⟨ys, h1, h2, h3, h4, h5, h6, h7⟩ := h
  refine ⟨ys, h1, h2, h3, h4, h5, fun q hq => ?_, fun t ht => absurd ht (Nat.not_lt_zero _)⟩
  by_cases e : q = k
  · subst e
    have hl := h1.ln q hk
    refine List.ext_getElem (by simp [z3L, hl]) (fun t g1 g2 => ?_)
    have ht : t < len q := by simpa [z3L] using g2
    have h8 := h7 t ht
    rw [List.getElem?_eq_getElem (by omega)] at h8
    injection h8 with h8
    simp [z3L, h8]
  · exact h6 q (by omega)
theorem In3.below {w wr wr' : World} {B N : Nat} {v1 : Value} {A : Nat → Option Addr} {C : Nat → Nat} {len : Nat → Nat} {ao : Value} {l9 : List Int} {k j : Nat} (h : In3 w wr B N v1 A C len ao l9 k j) (hb : Below wr.heap.size wr wr') (hw : B ≤ wr.heap.size) : In3 w wr' B N v1 A C len ao l9 k j := by
  obtain ⟨ys, h1, h2, h3, h4, h5, h6, h7⟩ := h
  exact ⟨ys, h1.below hb (Nat.le_refl _), h2.below hb (Nat.le_refl _), h3.below hb (Nat.le_refl _), h4.trans (hb.mono hw), h5, h6, h7⟩
/-- Another row of lists has grown. -/
theorem In3.grown {w wr wr' : World} {B N B3 : Nat} {v1 v : Value} {A : Nat → Option Addr} {C : Nat → Nat} {len : Nat → Nat} {ao : Value} {l9 : List Int} {k j : Nat} {xs : List Value} (h : In3 w wr B N v1 A C len ao l9 k j) (hv : Own wr B3 23 v xs) (hg : wr.grownBy wr' v.ownBlock) (hB3 : B ≤ B3) (hlt : ∀ b, v1.ownBlock = some b → b < B3) (hw : B ≤ wr.heap.size) : In3 w wr' B N v1 A C len ao l9 k j := by
  obtain ⟨ys, h1, h2, h3, h4, h5, h6, h7⟩ := h
  refine ⟨ys, h1.kept hv hg, h2.kept hg (kept_sep (fun b hb h9 => ?_)), h3.kept hg (kept_types h3 hv (by decide)), h4.grown hg hw (fun q hq => Nat.le_trans hB3 (hv.lt q hq).1), h5, h6, h7⟩
  have := hlt b hb
  have := (hv.lt b h9).1
  omega
theorem In3.bel {w wr : World} {B N : Nat} {v1 : Value} {A : Nat → Option Addr} {C : Nat → Nat} {len : Nat → Nat} {ao : Value} {l9 : List Int} {k j : Nat} (h : In3 w wr B N v1 A C len ao l9 k j) : Below B w wr := by
  obtain ⟨ys, h1, h2, h3, h4, _⟩ := h
  exact h4
theorem MvS.setLow {wr : World} {B3 g : Nat} {mv : Value} {vs : List Value} {ms : List (List Int)} (h : MvS wr B3 mv vs ms) (hg : g < B3) (j : Nat) (x : Value) : MvS (wr.setCell ⟨g, j, none⟩ x) B3 mv vs ms :=
  ⟨h.top.setOther (fun e => by have := (h.top.lt g e).1; omega) _, h.len, fun k h1 h2 => (h.own k h1 h2).setOther (fun e => by have := ((h.own k h1 h2).lt g e).1; omega) _⟩
theorem In3.low {w wr : World} {B N : Nat} {v1 : Value} {A : Nat → Option Addr} {C : Nat → Nat} {len : Nat → Nat} {ao : Value} {l9 : List Int} {k j : Nat} (h : In3 w wr B N v1 A C len ao l9 k j) (q g : Nat) (hq : q < N) (hg : A q = some ⟨g, 0, none⟩) : g < wr.heap.size := by
  obtain ⟨ys, h2, h3, h4, _⟩ := h
  exact ((h2.ow.own q hq).lt g (by rw [hg]; rfl)).2
/-- List k in memory. -/
theorem In3.at_ {w wr : World} {B N : Nat} {v1 : Value} {A : Nat → Option Addr} {C : Nat → Nat} {len : Nat → Nat} {ao : Value} {l9 : List Int} {k j : Nat} {A1 : Option Addr} {n c : Nat} (h : In3 w wr B N v1 A C len ao l9 k j) (h1 : v1 = .slice A1 n c) (hk : k < N) :
    (∃ g, A1 = some ⟨g, 0, none⟩ ∧ wr.cell? ⟨g, k, none⟩ = some (.slice (A k) (len k) (C k))) ∧ len k ≤ C k ∧ (0 < len k → ∃ g, A k = some ⟨g, 0, none⟩ ∧ ∀ t, t < len k → (∃ u, wr.cell? ⟨g, t, none⟩ = some (.int .i64 u)) ∧ wr.frozen? ⟨g, t, none⟩ = false) := by
  obtain ⟨ys, h2, h3, h4, _⟩ := h
  subst h1
  have hl := h3.len
  rw [inV_length] at hl
  obtain ⟨g, rfl⟩ := h3.someAt (by omega)
  have ho := h2.ow.own k hk
  have hcap := (own_cap ho).1
  refine ⟨⟨g, rfl, h3.get (inV_at A C len hk)⟩, by omega, fun h0 => ?_⟩
  obtain ⟨g', hg'⟩ := ho.someAt (by omega)
  refine ⟨g', hg', fun t ht => ?_⟩
  rw [hg'] at ho
  have hy := h2.ln k hk
  exact ⟨⟨_, ho.get (intL_get _ t (by omega))⟩, ho.frozen t⟩
end Go.Proofs.YtaijepjhmjjecaaDoor
