/- What the document answers is what the machine answers: the contracts of its Accepts and Alive, of whatever was told. -/
import Derived.Test.YtejmjjgbbojfbaaDoorAlive
import Derived.Test.YtejmjjgbbojfbaaDoorSpanP
import Derived.Test.YtejmjjgbbojfbaaDoorDocF
import Derived.Test.YtejmjjgbbojfbaaDoorDead
namespace Go.Proofs.YtejmjjgbbojfbaaDoor
set_option linter.unusedVariables false
open Go.ChangeShapes Go.WideShapes Go.ChangeAt Go.RowKit

/-- The machine of what an automaton is made of. -/
def OfV.mach (o : OfV) : Mach :=
  if o.k = 3 then wildM ((elems o.s.data.toList).getD []) else if o.k = 4 then fuzzM o.s.data.toList o.n.toNat else if o.k = 2 then prefixM o.s.data.toList
  else if o.k = 5 then spanM o.lop o.lin o.ls o.hop o.hin o.hs else exactM o.s.data.toList
theorem at_mach {w : World} {p : Nat} {o : OfV} (h : AutoAt w p o) (hs : o.s.size ≤ 1000000000) (hl : o.ls.size ≤ 1000000000) (hh : o.hs.size ≤ 1000000000) : IsAuto w p o.mach := by
  obtain ⟨h0, h3, h4, h2, h5, h1⟩ := h
  unfold OfV.mach
  by_cases k3 : o.k = 3
  · rw [if_pos k3]; obtain ⟨es, he, ha⟩ := h3 k3; rw [he]; exact ha
  rw [if_neg k3]
  by_cases k4 : o.k = 4
  · rw [if_pos k4]; exact h4 k4
  rw [if_neg k4]
  by_cases k2 : o.k = 2
  · rw [if_pos k2]; exact prefixM_auto hs (h2 k2)
  rw [if_neg k2]
  by_cases k5 : o.k = 5
  · rw [if_pos k5]; exact spanM_auto hl hh (h5 k5)
  rw [if_neg k5]
  exact exactM_auto hs (h1 k2 k3 k4 k5)
theorem begB_eq (s t : ByteArray) : begB s t = headB s.data.toList t.data.toList := by
  unfold begB headB
  have hsl : s.data.toList.length = s.size := Array.length_toList (xs := s.data)
  have htl : t.data.toList.length = t.size := Array.length_toList (xs := t.data)
  have e : (s.extract 0 t.size).data.toList = s.data.toList.take t.size := by
    rw [ByteArray.data_extract]; simp
  rw [hsl, htl, ByteArray.toList_eq, ByteArray.toList_eq, e]
  congr 1
  rw [Bool.eq_iff_iff, beq_iff_eq, decide_eq_true_eq]
  exact eq_comm
theorem str_eq (x s : ByteArray) : (x.toList == s.toList) = decide (x.data.toList = s.data.toList) := by
  rw [ByteArray.toList_eq, ByteArray.toList_eq, Bool.eq_iff_iff, beq_iff_eq, decide_eq_true_eq]
theorem zero_app (s : ByteArray) : (s ++ ⟨#[0]⟩).data.toList = s.data.toList ++ [0] := by rw [ByteArray.data_append]; simp
theorem racc_of (W : World) (o : OfV) (hb : o.bad = 0) (x : ByteArray) (h1 : o.s.size ≤ 1048576) (h2 : o.ls.size ≤ 1048576) (h3 : o.hs.size ≤ 1048576) (h4 : x.size ≤ 1048576) :
    Calls Tryd.prog 20 #[.agg (rCellsOf o).toArray, .string x] W (RetB W (accM o.mach x.data.toList)) := by
  obtain ⟨k, s, n, lop, lin, ls, hop, hin, hs⟩ := o
  simp only at h1 h2 h3
  have hsl : s.data.toList.length = s.size := Array.length_toList (xs := s.data)
  unfold rCellsOf OfV.mach
  simp only
  by_cases hk : k < 2 ∨ 5 < k
  · rw [if_pos hk, if_neg (by omega), if_neg (by omega), if_neg (by omega), if_neg (by omega), acc_exact _ (by omega), ← str_eq]
    exact racc_exact W s x 0 false false ⟨#[]⟩ false false ⟨#[]⟩
  rw [if_neg hk]
  show Calls Tryd.prog 20 #[.agg #[.int .i64 k, .string s, .int .i64 n, .bool lop, .bool lin, .string ls, .bool hop, .bool hin, .string hs], .string x] W _
  by_cases k3 : k = 3
  · subst k3
    rw [if_pos rfl]
    unfold OfV.bad at hb
    simp only at hb
    cases he : elems s.data.toList with
    | none => rw [he] at hb; simp at hb
    | some es =>
      rw [Option.getD_some, acc_row es (elems_kinds _ _ _ (Nat.le_refl _) he)]
      exact racc_wild W s x es he (by have := elems_len _ _ he; omega) n lop lin ls hop hin hs (by omega) (by omega)
  rw [if_neg k3]
  by_cases k4 : k = 4
  · subst k4
    have hn : 0 ≤ n ∧ n ≤ 2 := by
      unfold OfV.bad at hb
      simp only at hb
      rw [if_neg (fun h => k3 h.1)] at hb
      by_cases hc : n < 0 ∨ 2 < n
      · rw [if_pos ⟨trivial, hc⟩] at hb; cases hb
      · omega
    obtain ⟨m, rfl⟩ : ∃ m : Nat, n = m := ⟨n.toNat, by omega⟩
    rw [if_pos rfl, Int.toNat_natCast, acc_fz _ m (by omega)]
    exact racc_fuzzy W s x m (by omega) lop lin ls hop hin hs h1 h4
  rw [if_neg k4]
  by_cases k2 : k = 2
  · subst k2
    rw [if_pos rfl, acc_prefix _ (by omega), ← begB_eq]
    exact racc_prefix W s x n lop lin ls hop hin hs (by omega) (by omega)
  rw [if_neg k2]
  obtain rfl : k = 5 := by omega
  rw [if_pos rfl, acc_span _ _ _ _ _ _ (by omega) (by omega), ← accSp_eq]
  exact racc_span W s x n lop lin ls hop hin hs
theorem ral_of (W : World) (o : OfV) (hb : o.bad = 0) (x : ByteArray) (h1 : o.s.size ≤ 1048576) (h2 : o.ls.size ≤ 1048576) (h3 : o.hs.size ≤ 1048576) (h4 : x.size ≤ 1048576) :
    Calls Tryd.prog 21 #[.agg (rCellsOf o).toArray, .string x] W (RetB W (aliveM o.mach x.data.toList)) := by
  obtain ⟨k, s, n, lop, lin, ls, hop, hin, hs⟩ := o
  simp only at h1 h2 h3
  have hsl : s.data.toList.length = s.size := Array.length_toList (xs := s.data)
  have hxl : x.data.toList.length = x.size := Array.length_toList (xs := x.data)
  unfold rCellsOf OfV.mach
  simp only
  by_cases hk : k < 2 ∨ 5 < k
  · rw [if_pos hk, if_neg (by omega), if_neg (by omega), if_neg (by omega), if_neg (by omega), alive_exact _ (by omega), ← begB_eq]
    exact ral_exact W s x 0 false false ⟨#[]⟩ false false ⟨#[]⟩ (by omega) (by omega)
  rw [if_neg hk]
  show Calls Tryd.prog 21 #[.agg #[.int .i64 k, .string s, .int .i64 n, .bool lop, .bool lin, .string ls, .bool hop, .bool hin, .string hs], .string x] W _
  by_cases k3 : k = 3
  · subst k3
    rw [if_pos rfl]
    unfold OfV.bad at hb
    simp only at hb
    cases he : elems s.data.toList with
    | none => rw [he] at hb; simp at hb
    | some es =>
      rw [Option.getD_some, alive_row es (elems_kinds _ _ _ (Nat.le_refl _) he)]
      exact ral_wild W s x es he (by have := elems_len _ _ he; omega) n lop lin ls hop hin hs (by omega) (by omega)
  rw [if_neg k3]
  by_cases k4 : k = 4
  · subst k4
    have hn : 0 ≤ n ∧ n ≤ 2 := by
      unfold OfV.bad at hb
      simp only at hb
      rw [if_neg (fun h => k3 h.1)] at hb
      by_cases hc : n < 0 ∨ 2 < n
      · rw [if_pos ⟨trivial, hc⟩] at hb; cases hb
      · omega
    obtain ⟨m, rfl⟩ : ∃ m : Nat, n = m := ⟨n.toNat, by omega⟩
    rw [if_pos rfl, Int.toNat_natCast, alive_fz _ m (by omega), hsl, hxl]
    exact ral_fuzzy W s x m (by omega) lop lin ls hop hin hs h1 h4
  rw [if_neg k4]
  by_cases k2 : k = 2
  · subst k2
    rw [if_pos rfl, alive_prefix _ (by omega), ← begB_eq, ← begB_eq]
    exact ral_prefix W s x n lop lin ls hop hin hs (by omega) (by omega)
  rw [if_neg k2]
  obtain rfl : k = 5 := by omega
  rw [if_pos rfl, alive_span _ _ _ _ _ _ (by omega) (by omega), ← accSp_eq, ← accSp_eq, ← zero_app, ← accSp_eq, ← begB_eq]
  exact ral_span W s x n lop lin ls hop hin hs (by omega) (by omega)
end Go.Proofs.YtejmjjgbbojfbaaDoor
