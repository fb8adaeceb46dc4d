/- The machine of a pattern: what it computes, and the walks of its methods. -/
import Derived.Test.YtejmjjgbbojfbaaDoorEls
import Derived.Test.YtejmjjgbbojfbaaDoorMach
namespace Go.Proofs.YtejmjjgbbojfbaaDoor
set_option linter.unusedVariables false
open Go.ChangeShapes Go.WideShapes Go.ChangeAt Go.RowKit

def bitB (b : Bool) : UInt8 := if b then 1 else 0
def bitsB (l : List Bool) : List UInt8 := l.map bitB
theorem bitsB_length (l : List Bool) : (bitsB l).length = l.length := by simp [bitsB]
def strB (l : List Bool) : ByteArray := strOf (bitsB l)
def boolsOf (d : ByteArray) : List Bool := d.data.toList.map fun b => b == 1
theorem boolsOf_strB (l : List Bool) : boolsOf (strB l) = l := by
  unfold boolsOf strB strOf bitsB
  rw [List.toList_toArray, List.map_map]
  conv => rhs; rw [← List.map_id l]
  exact List.map_congr_left fun b _ => by cases b <;> rfl
def PEl.k (es : List PEl) (i : Nat) : Nat := (es.getD i (0, 0)).1
def PEl.b (es : List PEl) (i : Nat) : UInt8 := (es.getD i (0, 0)).2
/-- The first i elements let a star match nothing. -/
def closeI (es : List PEl) (s : List Bool) : Nat → List Bool
  | 0 => s
  | i + 1 => if (closeI es s i).getD i false = true ∧ PEl.k es i = 2 then (closeI es s i).set (i + 1) true else closeI es s i
theorem closeI_length (es : List PEl) (s : List Bool) (i : Nat) : (closeI es s i).length = s.length := by
  induction i with
  | zero => rfl
  | succ i ih => rw [closeI]; split <;> simp [ih]
/-- Does element i take the letter b from the set D? -/
def takes (es : List PEl) (D : List Bool) (b : UInt8) (i : Nat) : Prop :=
  (PEl.k es i = 2 ∧ D.getD (i + 1) false = true) ∨ (PEl.k es i = 1 ∧ D.getD i false = true) ∨ (PEl.k es i = 0 ∧ PEl.b es i = b ∧ D.getD i false = true)
instance (es : List PEl) (D : List Bool) (b : UInt8) (i : Nat) : Decidable (takes es D b i) := by unfold takes; infer_instance
def stepI (es : List PEl) (D : List Bool) (b : UInt8) : Nat → List Bool
  | 0 => List.replicate D.length false
  | i + 1 => if takes es D b i then (stepI es D b i).set (i + 1) true else stepI es D b i
theorem stepI_length (es : List PEl) (D : List Bool) (b : UInt8) (i : Nat) : (stepI es D b i).length = D.length := by
  induction i with
  | zero => simp [stepI]
  | succ i ih => rw [stepI]; split <;> simp [ih]
def startL (es : List PEl) : List Bool := closeI es ((List.replicate (es.length + 1) false).set 0 true) es.length
def stepL (es : List PEl) (D : List Bool) (b : UInt8) : List Bool := closeI es (stepI es D b es.length) es.length
def wildM (es : List PEl) : Mach where
  start := strB (startL es)
  step d b := if (stepL es (boolsOf d) b).any id then strB (stepL es (boolsOf d) b) else ⟨#[]⟩
  acc d := (boolsOf d).getD es.length false
def setV (s : List Bool) : List Value := bytesV (bitsB s)
theorem setV_length (s : List Bool) : (setV s).length = s.length := by simp [setV, bytesV, bitsB]
theorem setV_set (s : List Bool) (i : Nat) : (setV s).set i (.int .u8 1) = setV (s.set i true) := by
  unfold setV bytesV bitsB
  rw [List.map_map, List.map_map, List.map_set]; rfl
theorem setV_get {s : List Bool} {i : Nat} (h : i < s.length) : (setV s)[i]? = some (.int .u8 (if s.getD i false then 1 else 0)) := by
  unfold setV bytesV bitsB
  rw [List.map_map, List.getElem?_map, List.getElem?_eq_getElem h]
  have : s.getD i false = s[i] := by rw [List.getD_eq_getElem?_getD, List.getElem?_eq_getElem h]; rfl
  rw [this]
  cases s[i] <;> rfl
theorem madeB (n : Nat) : madeCells #[.int .u8 0] n = (setV (List.replicate n false)).toArray := by
  refine Array.ext (by rw [size_madeCells]; simp [setV_length]) fun i h1 h2 => ?_
  simp [madeCells, setV, bytesV, bitsB, bitB, Nat.mod_one]
/-- The list of elements reads so, whatever is made or turned from base on. -/
def RdL (base : Nat) (w : World) (v : Value) (es : List PEl) : Prop := ∀ w', Below base w w' → RdE w' v es
theorem RdE.k {w : World} {a : Option Addr} {n c : Nat} {es : List PEl} (h : RdE w (.slice a n c) es) : n = es.length ∧ ∀ i, i < es.length → ∃ g, a = some ⟨g, 0, none⟩ ∧ w.cell? ⟨g, i * 2, none⟩ = some (.int .i64 (PEl.k es i : Nat)) ∧ w.cell? ⟨g, i * 2 + 1, none⟩ = some (.int .u8 ((PEl.b es i).toNat : Nat)) := by
  obtain ⟨a', c', hv, h⟩ := h
  injection hv with e1 e2 e3
  subst e1 e2 e3
  refine ⟨rfl, fun i hi => ?_⟩
  obtain ⟨g, e, hg⟩ := h (by omega)
  have hd : es.getD i (0, 0) = es[i] := by rw [List.getD_eq_getElem?_getD, List.getElem?_eq_getElem hi]; rfl
  exact ⟨g, e, by unfold PEl.k; rw [hd]; exact (hg i hi).1, by unfold PEl.b; rw [hd]; exact (hg i hi).2⟩

set_option maxRecDepth 100000 in
set_option maxHeartbeats 1000000 in
theorem close_any (w : World) (base g c : Nat) (a : Option Addr) (n ca : Nat) (es : List PEl) (s : List Bool) (hr : RdL base w (.slice a n ca) es) (hown : Own w base 5 (.slice (some ⟨g, 0, none⟩) s.length c) (setV s)) (hlen : s.length = es.length + 1) (hb : base ≤ w.heap.size) (hes : es.length ≤ 1000000000000) :
    Calls Tryd.prog 117 #[.agg #[.slice a n ca], .slice (some ⟨g, 0, none⟩) s.length c] w fun e w' => e = .returned (.tuple #[]) ∧ Own w' base 5 (.slice (some ⟨g, 0, none⟩) s.length c) (setV (closeI es s es.length)) ∧ Eff (· = g) w w' := by
  obtain rfl := (hr w (Below.refl _ _)).k.1
  have hg : base ≤ g := (hown.lt g rfl).1
  have HR := Lib.hid hr
  have HL := Lib.hid hlen
  have ho1 := hown.alloc (.cells #[.slice a es.length ca] 93)
  have HO := Lib.hid ho1
  clear hr hown ho1 hlen
  go_enter Tryd.func117, Tryd.ntmps117
  go_wp2
  go_loopw [9] (fun s9 wr => ∃ i : Nat, s9 = .int .i64 i ∧ i ≤ es.length ∧ Own wr base 5 (.slice (some ⟨g, 0, none⟩) s.length c) (setV (closeI es s i)) ∧ Eff (· = g) w wr) (fun s9 _ => es.length - (intOf s9).toNat)
  case atStart => exact ⟨0, rfl, Nat.zero_le _, HO.out, (Eff.refl _ _).alloc _⟩
  case round =>
    clear HO
    obtain ⟨i, rfl, hi, hown, heff⟩ := hrel
    have hbl : Below base w wr := heff.below (fun k hk => by subst hk; exact hg) hb
    by_cases hlt : i < es.length
    · obtain ⟨gl, rfl, k0, k1⟩ := (HR.out wr hbl).k.2 i hlt
      have hsl1 : s.length ≤ es.length + 1 := Nat.le_of_eq HL.out
      have hsl2 : es.length + 1 ≤ s.length := Nat.le_of_eq HL.out.symm
      obtain ⟨t, ht⟩ : ∃ t, closeI es s i = t := ⟨_, rfl⟩
      have htl : t.length = es.length + 1 := by rw [← ht, closeI_length]; exact HL.out
      have hc1 : closeI es s (i + 1) = if t.getD i false = true ∧ PEl.k es i = 2 then t.set (i + 1) true else t := by rw [closeI, ht]
      rw [ht] at hown
      obtain ⟨o1, ho1⟩ : ∃ o1, o1 = Obj.cells #[.int .i64 (PEl.k es i : Nat), .int .u8 ((PEl.b es i).toNat : Nat)] 131 := ⟨_, rfl⟩
      have hown1 := hown.alloc o1
      have hget := hown1.get (setV_get (s := t) (i := i) (by omega))
      have hget1 := hown1.get (setV_get (s := t) (i := i + 1) (by omega))
      have hfz := hown1.frozen (i + 1)
      have hset := hown1.set (i + 1) (.int .u8 1)
      rw [setV_set] at hset
      have heff1 := heff.alloc o1
      have heff2 := heff1.setCell (p := ⟨g, i + 1, none⟩) (fun _ => rfl) (.int .u8 1)
      obtain ⟨kk, hkk⟩ : ∃ kk : Int, ((PEl.k es i : Nat) : Int) = kk := ⟨_, rfl⟩
      rw [hkk] at k0 ho1
      have HKK := Lib.hid hkk
      rw [ho1] at hget hget1 hfz hset heff1 heff2 hown1
      have HC := Lib.hid hc1
      have HS := Lib.hid hset
      have HE1 := Lib.hid heff1
      have HE2 := Lib.hid heff2
      have HW1 := Lib.hid hown1
      clear ht hkk ho1 hc1 hset heff1 heff2 hown1 hown heff hbl htl
      obtain ⟨bb, hbb⟩ : ∃ bb, t.getD i false = bb := ⟨_, rfl⟩
      rw [hbb] at hget
      have HBB := Lib.hid hbb
      clear hbb
      cases bb with
      | false =>
        simp only [Bool.false_eq_true, if_false] at hget
        go_wp2
        go_roundw
        case rel => exact ⟨i + 1, by go_num, by omega, by rw [HC.out, if_neg (by rw [HBB.out]; simp)]; exact HW1.out, HE1.out⟩
        case measure => simp [intOf]; omega
      | true =>
        simp only [if_true] at hget
        by_cases hk : kk = 2
        · subst hk
          go_wp2
          go_roundw
          case rel => exact ⟨i + 1, by go_num, by omega, by rw [HC.out, if_pos ⟨HBB.out, by have := HKK.out; omega⟩]; exact HS.out, HE2.out⟩
          case measure => simp [intOf]; omega
        · have HK := Lib.hid hk
          go_wp2
          go_roundw
          case rel => exact ⟨i + 1, by go_num, by omega, by rw [HC.out, if_neg (fun h => HK.out (by have := HKK.out; omega))]; exact HW1.out, HE1.out⟩
          case measure => simp [intOf]; omega
    · obtain rfl : i = es.length := by omega
      go_wp2
      go_end0
      exact ⟨rfl, hown, heff⟩
end Go.Proofs.YtejmjjgbbojfbaaDoor
