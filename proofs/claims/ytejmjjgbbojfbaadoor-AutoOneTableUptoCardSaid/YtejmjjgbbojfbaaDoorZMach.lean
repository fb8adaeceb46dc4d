/- Machines: an automaton behind its interface; behind, Accepts, Alive of whatever machine. -/
import Derived.Test.YtejmjjgbbojfbaaDoorZG2
import Derived.BigQuiet
import Derived.StillTailTactics
import Derived.Handy
namespace Go.Proofs.YtejmjjgbbojfbaaDoor
set_option linter.unusedVariables false
open Go.ChangeShapes Go.WideShapes Go.ChangeAt Go.RowKit

/-- What a machine computes: descriptions are texts, the empty one is dead. -/
structure Mach where
  start : ByteArray
  step : ByteArray → UInt8 → ByteArray
  acc : ByteArray → Bool
def stepM (M : Mach) (d : ByteArray) (b : UInt8) : ByteArray := if d = ⟨#[]⟩ then ⟨#[]⟩ else M.step d b
def runM (M : Mach) (s : List UInt8) : ByteArray := s.foldl (stepM M) M.start
theorem runM_snoc (M : Mach) (s : List UInt8) (b : UInt8) : runM M (s ++ [b]) = stepM M (runM M s) b := by
  unfold runM
  rw [List.foldl_append]; rfl
theorem stepM_dead (M : Mach) (t : List UInt8) : t.foldl (stepM M) ⟨#[]⟩ = ⟨#[]⟩ := by
  induction t with
  | nil => rfl
  | cons b t ih => rw [List.foldl_cons, show stepM M ⟨#[]⟩ b = ⟨#[]⟩ by unfold stepM; rw [if_pos rfl]]; exact ih
theorem runM_dead (M : Mach) (s t : List UInt8) (h : runM M s = ⟨#[]⟩) : runM M (s ++ t) = ⟨#[]⟩ := by
  have e : runM M (s ++ t) = t.foldl (stepM M) (runM M s) := by unfold runM; rw [List.foldl_append]
  rw [e, h]; exact stepM_dead M t
theorem runM_take (M : Mach) (s : ByteArray) (i : Nat) (h : runM M (s.data.toList.take i) = ⟨#[]⟩) : runM M s.data.toList = ⟨#[]⟩ := by
  have := runM_dead M (s.data.toList.take i) (s.data.toList.drop i) h
  rwa [List.take_append_drop] at this
def accM (M : Mach) (s : List UInt8) : Bool := decide (runM M s ≠ ⟨#[]⟩) && M.acc (runM M s)
def aliveM (M : Mach) (s : List UInt8) : Bool := decide (runM M s ≠ ⟨#[]⟩)

theorem toList_nil {d : ByteArray} (h : d.toList.isEmpty = true) : d = ⟨#[]⟩ := by
  have h1 : d.toList = [] := List.isEmpty_iff.1 h
  rw [ByteArray.toList_eq] at h1
  cases d with | mk a => simp at h1; rw [h1]
/-- A method's call. -/
def Meth (T : TypeId) (x : Value) (nm : String) (f : FuncId) : Prop := (∀ w : World, (Go.method 311 T x nm).run Tryd.prog w = .ok (f, x) w) ∧ ∀ (args : Array Value) (w : World), (callFunc f args).run Tryd.prog w = .ok (.enter f args) w
/-- At p lies an automaton of the machine M. -/
def IsAuto (w : World) (p : Nat) (M : Mach) : Prop :=
  p < w.heap.size ∧ ∃ (T : TypeId) (x : Value) (fs ft fa : FuncId) (I : ByteArray → Prop), (w.cell? ⟨p, 0, none⟩ = some (.iface T x) ∧ ∀ d, I d → d.size ≤ 4000000000) ∧ Meth T x "concord/auto.start" fs ∧ Meth T x "concord/auto.step" ft ∧ Meth T x "concord/auto.accepts" fa ∧
    (M.start ≠ ⟨#[]⟩ → I M.start) ∧ (∀ d b, I d → d ≠ ⟨#[]⟩ → M.step d b ≠ ⟨#[]⟩ → I (M.step d b)) ∧
    ∀ w', Below w.heap.size w w' → Calls Tryd.prog fs #[x] w' (fun e w'' => e = .returned (.string M.start) ∧ Below w'.heap.size w' w'') ∧
      (∀ d (b : UInt8), I d → d ≠ ⟨#[]⟩ → Calls Tryd.prog ft #[x, .string d, .int .u8 (b.toNat : Nat)] w' (fun e w'' => e = .returned (.string (M.step d b)) ∧ Below w'.heap.size w' w'')) ∧
      (∀ d, I d → d ≠ ⟨#[]⟩ → Calls Tryd.prog fa #[x, .string d] w' (fun e w'' => e = .returned (.bool (M.acc d)) ∧ Below w'.heap.size w' w''))
theorem IsAuto.below {w w1 : World} {p : Nat} {M : Mach} (h : IsAuto w p M) (hb : Below w.heap.size w w1) : IsAuto w1 p M := by
  obtain ⟨hp, T, x, fs, ft, fa, I, hc, h1, h2, h3, h4, h5, h6⟩ := h
  exact ⟨Nat.lt_of_lt_of_le hp hb.size, T, x, fs, ft, fa, I, ⟨by rw [hb.cell hp]; exact hc.1, hc.2⟩, h1, h2, h3, h4, h5, fun w' hb' => h6 w' (hb.trans (hb'.mono hb.size))⟩

theorem inv_run (M : Mach) (I : ByteArray → Prop) (h4 : M.start ≠ ⟨#[]⟩ → I M.start) (h5 : ∀ d b, I d → d ≠ ⟨#[]⟩ → M.step d b ≠ ⟨#[]⟩ → I (M.step d b)) (s : List UInt8) : runM M s ≠ ⟨#[]⟩ → I (runM M s) := by
  have key : ∀ (t : List UInt8) (d : ByteArray), (d ≠ ⟨#[]⟩ → I d) → t.foldl (stepM M) d ≠ ⟨#[]⟩ → I (t.foldl (stepM M) d) := by
    intro t
    induction t with
    | nil => exact fun d h hn => h hn
    | cons b t ih =>
      intro d h
      rw [List.foldl_cons]
      refine ih _ fun hn => ?_
      unfold stepM at hn ⊢
      by_cases h0 : d = ⟨#[]⟩
      · rw [if_pos h0] at hn; exact absurd rfl hn
      · rw [if_neg h0] at hn ⊢; exact h5 d b (h h0) h0 hn
  exact key s M.start h4

set_option maxRecDepth 100000 in
set_option maxHeartbeats 1000000 in
theorem behind_any (w : World) (p : Nat) (M : Mach) (h : IsAuto w p M) (s : ByteArray) (hs : s.size ≤ 1000000000000) :
    Calls Tryd.prog 43 #[.pointer (some ⟨p, 0, none⟩), .string s] w fun e w' => e = .returned (.string (runM M s.data.toList)) ∧ Below w.heap.size w w' := by
  obtain ⟨hp, T, x, fs, ft, fa, I, ⟨hc, -⟩, h1, h2, h3, h4, h5, h6⟩ := h
  have C0 := (h6 w (Below.refl _ _)).1
  have H6 := Lib.hid h6
  have H4 := Lib.hid h4
  have H5 := Lib.hid h5
  have m1 := h1.1 w
  have e1 := h1.2 #[x] w
  have HM := Lib.hid h2
  have hsl : s.size = s.data.toList.length := (Array.length_toList (xs := s.data)).symm
  have HSL := Lib.hid hsl
  clear h6 h4 h5 h1 h2 h3 hsl
  go_enter Tryd.func43, Tryd.ntmps43
  go_wp2_with fail
  refine C0.mono ?_
  rintro e w1 ⟨rfl, hb1⟩
  clear C0 m1 e1
  have HB1 := Lib.hid hb1
  clear hb1
  go_wp2
  go_loopw [5, 6] (fun s5 s6 wr => ∃ i : Nat, s6 = .int .i64 i ∧ i ≤ s.size ∧ s5 = .string (runM M (s.data.toList.take i)) ∧ (runM M (s.data.toList.take i) ≠ ⟨#[]⟩ → I (runM M (s.data.toList.take i))) ∧ Below w.heap.size w wr) (fun _ s6 _ => s.size - (intOf s6).toNat)
  case atStart => exact ⟨0, rfl, Nat.zero_le _, rfl, H4.out, HB1.out⟩
  case round =>
    obtain ⟨i, rfl, hi, rfl, hI, hb⟩ := hrel
    by_cases hlt : i < s.size
    · obtain ⟨d, hd⟩ : ∃ d, runM M (s.data.toList.take i) = d := ⟨_, rfl⟩
      rw [hd] at hI ⊢
      have HD := Lib.hid hd
      have HI := Lib.hid hI
      clear hd hI
      have hc1 : wr.cell? ⟨p, 0, none⟩ = some (.iface T x) := by rw [hb.cell hp]; exact hc
      by_cases h0 : d = ⟨#[]⟩
      · subst h0
        go_wp2
        go_ret
        exact ⟨by rw [runM_take M s i HD.out]; rfl, hb⟩
      · have q : d.toList.isEmpty = false := by
          cases hq : d.toList.isEmpty
          · rfl
          · exact absurd (toList_nil hq) h0
        have hil : i < s.data.toList.length := by rw [← HSL.out]; exact hlt
        have C2 := (H6.out wr.drew hb.drew).2.1 d s[i] (HI.out h0) h0
        have m2 := HM.out.1 wr.drew
        have e2 := HM.out.2 #[x, .string d, .int .u8 ((s[i]'hlt).toNat : Nat)] wr.drew
        have hnext : runM M (s.data.toList.take (i + 1)) = M.step d (s[i]'hlt) := by
          rw [List.take_add_one, List.getElem?_eq_getElem hil, Option.toList_some, runM_snoc, HD.out]
          unfold stepM; rw [if_neg h0]; rfl
        have HN := Lib.hid hnext
        have HZ := Lib.hid h0
        have HB := Lib.hid hb
        clear h0 hb hnext
        go_wp2
        go_still_tail 10, (by kernel_rfl)
        change wpList _ _ _ _ _ (World.drew _)
        go_wp2_with fail
        refine C2.mono ?_
        rintro e w2 ⟨rfl, hb2⟩
        clear C2 m2 e2
        have HB2 := Lib.hid (HB.out.drew.trans (hb2.mono HB.out.drew.size))
        clear hb2
        go_wp2
        go_roundw
        case rel => exact ⟨i + 1, by go_num, by omega, by rw [HN.out], by rw [HN.out]; exact H5.out d _ (HI.out HZ.out) HZ.out, HB2.out⟩
        case measure => simp [intOf]; omega
    · obtain rfl : i = s.size := by omega
      have hall : runM M (s.data.toList.take s.size) = runM M s.data.toList := by rw [HSL.out, List.take_length]
      have HA := Lib.hid hall
      clear hall hI
      go_wp2
      go_ret
      exact ⟨by rw [← HA.out]; rfl, hb⟩

set_option maxRecDepth 100000 in
theorem accepts_any (w : World) (p : Nat) (M : Mach) (h : IsAuto w p M) (s : ByteArray) (hs : s.size ≤ 1000000000000) :
    Calls Tryd.prog 15 #[.pointer (some ⟨p, 0, none⟩), .string s] w fun e w' => e = .returned (.bool (accM M s.data.toList)) ∧ Below w.heap.size w w' := by
  have C0 := behind_any w p M h s hs
  have hI := h
  obtain ⟨hp, T, x, fs, ft, fa, I, ⟨hc, -⟩, h1, h2, h3, h4, h5, h6⟩ := hI
  have hinv := inv_run M I h4 h5 s.data.toList
  have H6 := Lib.hid h6
  have H3 := Lib.hid h3
  clear h6 h4 h5 h1 h2 h3 h
  obtain ⟨d, hd⟩ : ∃ d, runM M s.data.toList = d := ⟨_, rfl⟩
  have hac : accM M s.data.toList = (decide (d ≠ ⟨#[]⟩) && M.acc d) := by unfold accM; rw [hd]
  rw [hac]
  rw [hd] at C0 hinv
  clear hac hd
  go_enter Tryd.func15, Tryd.ntmps15
  go_wp2_with fail
  refine C0.mono ?_
  rintro e w1 ⟨rfl, hb1⟩
  clear C0
  by_cases h0 : d = ⟨#[]⟩
  · subst h0
    go_wp2
    go_ret
    exact ⟨by simp, hb1⟩
  · have q : d.toList.isEmpty = false := by
      cases hq : d.toList.isEmpty
      · rfl
      · exact absurd (toList_nil hq) h0
    have C2 := (H6.out w1 hb1).2.2 d (hinv h0) h0
    have m2 := H3.out.1 w1
    have e2 := H3.out.2 #[x, .string d] w1
    have hc1 : w1.cell? ⟨p, 0, none⟩ = some (.iface T x) := by rw [hb1.cell hp]; exact hc
    have HZ := Lib.hid h0
    have HB := Lib.hid hb1
    clear h0 hb1 hinv
    go_wp2_with fail
    refine C2.mono ?_
    rintro e w2 ⟨rfl, hb2⟩
    clear C2 m2 e2
    have HB2 := Lib.hid (HB.out.trans (hb2.mono HB.out.size))
    clear hb2
    go_wp2
    go_ret
    exact ⟨by rw [decide_eq_true HZ.out, Bool.true_and]; rfl, HB2.out⟩

set_option maxRecDepth 100000 in
theorem alive_any (w : World) (p : Nat) (M : Mach) (h : IsAuto w p M) (s : ByteArray) (hs : s.size ≤ 1000000000000) :
    Calls Tryd.prog 16 #[.pointer (some ⟨p, 0, none⟩), .string s] w fun e w' => e = .returned (.bool (aliveM M s.data.toList)) ∧ Below w.heap.size w w' := by
  have C0 := behind_any w p M h s hs
  obtain ⟨d, hd⟩ : ∃ d, runM M s.data.toList = d := ⟨_, rfl⟩
  have hac : aliveM M s.data.toList = decide (d ≠ ⟨#[]⟩) := by unfold aliveM; rw [hd]
  rw [hac]
  rw [hd] at C0
  clear hac hd h
  go_enter Tryd.func16, Tryd.ntmps16
  go_wp2_with fail
  refine C0.mono ?_
  rintro e w1 ⟨rfl, hb1⟩
  clear C0
  by_cases h0 : d = ⟨#[]⟩
  · subst h0
    go_wp2
    go_ret
    exact ⟨by simp, hb1⟩
  · have q : d.toList.isEmpty = false := by
      cases hq : d.toList.isEmpty
      · rfl
      · exact absurd (toList_nil hq) h0
    have HZ := Lib.hid h0
    clear h0
    go_wp2
    go_ret
    exact ⟨by rw [decide_eq_true HZ.out]; rfl, hb1⟩
end Go.Proofs.YtejmjjgbbojfbaaDoor
