/- codec.Writer: lists: anyBelow, Rising. -/
import Derived.Test.YthnpbfadblcicaaDoorZWriter
namespace Go.Proofs.YthnpbfadblcicaaDoor
set_option linter.unusedVariables false
open Go.ChangeShapes Go.WideShapes Go.ChangeAt Go.RowKit

/-- A list of ints as values; each fits. -/
def intL (l : List Int) : List Value := l.map fun z => Value.int .i64 z
theorem intL_length (l : List Int) : (intL l).length = l.length := by simp [intL]
theorem intL_get (l : List Int) (j : Nat) (h : j < l.length) : (intL l)[j]? = some (.int .i64 l[j]) := by simp [intL, h]
theorem elInts : Elem Tryd.prog 51 3 (.int .i64 0) 8 := ⟨Tryd.underlying51, by kernel_rfl, rfl, by decide⟩
theorem intL_append (a b : List Int) : intL (a ++ b) = intL a ++ intL b := by simp [intL]
theorem intL_one (l : List Int) : ∀ u ∈ intL l, u.oneCell' = true := by
  intro u hu
  obtain ⟨k, _, rfl⟩ := List.mem_map.1 hu
  rfl
def FitL (l : List Int) : Prop := ∀ z ∈ l, -9223372036854775808 ≤ z ∧ z ≤ 9223372036854775807
/-- A cell of a list that reads. -/
theorem rd_get {w : World} {a : Option Addr} {n c : Nat} {l : List Int} (h : Rd w (.slice a n c) (intL l)) : n = l.length ∧ (0 < l.length → ∃ b o, a = some ⟨b, o, none⟩ ∧ ∀ (j : Nat) (hj : j < l.length), w.cell? ⟨b, o + j, none⟩ = some (.int .i64 l[j])) := by
  obtain ⟨A, c', h, _, hg⟩ := h
  injection h with h1 h2 h3
  subst h1 h2 h3
  rw [intL_length] at hg ⊢
  refine ⟨rfl, fun h0 => ?_⟩
  obtain ⟨b, o, e, hg⟩ := hg h0
  exact ⟨b, o, e, fun j hj => hg j _ (intL_get l j hj)⟩

def anyNeg (l : List Int) : Bool := l.any fun z => decide (z < 0)

set_option maxRecDepth 100000 in
theorem anyb_any (w : World) (a : Option Addr) (n c : Nat) (l : List Int) (h : Rd w (.slice a n c) (intL l)) (hl : (l.length : Int) ≤ 9223372036854775807) :
    Calls Tryd.prog 66 #[.slice a n c] w fun e w' => e = .returned (.bool (anyNeg l)) ∧ w = w' := by
  obtain ⟨rfl, hg⟩ := rd_get h
  have HG := Lib.hid hg
  clear h hg
  go_enter Tryd.func66, Tryd.ntmps66
  go_wp2
  go_loopw [7] (fun s wr => ∃ i : Nat, s = .int .i64 i ∧ i ≤ l.length ∧ anyNeg (l.take i) = false ∧ w = wr) (fun s _ => l.length - (intOf s).toNat)
  case atStart => exact ⟨0, rfl, Nat.zero_le _, rfl, rfl⟩
  case round =>
    obtain ⟨i, rfl, hi, hno, rfl⟩ := hrel
    by_cases hlt : i < l.length
    · obtain ⟨b, o, rfl, hg⟩ := HG.out (by omega)
      have hc := hg i hlt
      obtain ⟨z, hz⟩ : ∃ z, l[i] = z := ⟨_, rfl⟩
      rw [hz] at hc
      have HZ := Lib.hid hz
      have HN := Lib.hid hno
      clear hg hz hno
      by_cases hn : z < 0
      · go_wp2
        go_ret
        refine ⟨ret_bool ?_, rfl⟩
        have : anyNeg l = true := List.any_eq_true.2 ⟨z, by rw [← HZ.out]; exact List.getElem_mem hlt, by simpa using hn⟩
        rw [this]
      · go_wp2
        go_roundw
        case rel =>
          refine ⟨i + 1, by go_num, by omega, ?_, by first | rfl | trivial⟩
          have h1 : l.take (i + 1) = l.take i ++ [z] := by rw [List.take_add_one, List.getElem?_eq_getElem hlt, HZ.out]; rfl
          rw [h1]
          have := HN.out
          unfold anyNeg at *
          rw [List.any_append, this]; simp; omega
        case measure => simp [intOf]; omega
    · obtain rfl : i = l.length := by omega
      rw [List.take_length] at hno
      go_wp2
      go_ret
      exact ⟨ret_bool hno.symm, rfl⟩

/-- Is each but the first greater than the one ahead of it? -/
def rises (l : List Int) : Prop := ∀ i, (h : i + 1 < l.length) → l[i] < l[i + 1]
/-- The steps of a rising list, each as a uvarint. -/
def gapsB : Int → List Int → List UInt8
  | _, [] => []
  | last, z :: r => uvar (z - last - 1).toNat ++ gapsB z r
def risB (l : List Int) : List UInt8 := uvar l.length ++ gapsB (-1) l

theorem gapsB_snoc (last : Int) (l : List Int) (z : Int) : gapsB last (l ++ [z]) = gapsB last l ++ uvar (z - (l.getLastD last) - 1).toNat := by
  induction l generalizing last with
  | nil => simp [gapsB]
  | cons y l ih =>
    rw [List.cons_append, gapsB, ih, gapsB, List.append_assoc]
    congr 2
    cases l <;> simp [List.getLastD]

theorem last_lt {l : List Int} (hn : anyNeg l = false) (hr : rises l) (i : Nat) (h : i < l.length) : -1 ≤ (l.take i).getLastD (-1) ∧ (l.take i).getLastD (-1) < l[i] := by
  have hneg : ∀ k, (hk : k < l.length) → 0 ≤ l[k] := fun k hk => by
    have := List.any_eq_false.1 hn l[k] (List.getElem_mem hk)
    simpa using this
  cases i with
  | zero => simp [List.getLastD]; have := hneg 0 h; omega
  | succ i =>
    have h1 : l.take (i + 1) = l.take i ++ [l[i]] := by rw [List.take_add_one, List.getElem?_eq_getElem (by omega)]; rfl
    rw [h1]
    have e : (l.take i ++ [l[i]]).getLastD (-1) = l[i] := List.getLastD_concat ..
    rw [e]
    have := hneg i (by omega)
    have := hr i h
    omega
theorem gapsB_le {l : List Int} (hf : FitL l) (last : Int) (h0 : -1 ≤ last) (hn : ∀ z ∈ l, 0 ≤ z) : (gapsB last l).length ≤ 10 * l.length := by
  induction l generalizing last with
  | nil => simp [gapsB]
  | cons z l ih =>
    rw [gapsB, List.length_append, List.length_cons]
    have h1 := ih (fun y hy => hf y (List.mem_cons_of_mem _ hy)) z (by have := hn z List.mem_cons_self; omega) (fun y hy => hn y (List.mem_cons_of_mem _ hy))
    have h2 := hf z List.mem_cons_self
    have h3 := (uvar_le (z - last - 1).toNat (by omega)).2
    omega

end Go.Proofs.YthnpbfadblcicaaDoor
