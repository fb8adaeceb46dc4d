/- codec.Concat: the bytes of all parts, in a block of their own. -/
import Derived.Test.YthnpbfadblcicaaDoorZUns
import Derived.Laws.CopyOwn
namespace Go.Proofs.YthnpbfadblcicaaDoor
set_option linter.unusedVariables false
open Go.ChangeShapes Go.WideShapes Go.ChangeAt Go.RowKit

def catL (B : Nat → List UInt8) (n : Nat) : List UInt8 := (List.range n).flatMap B
theorem catL_succ (B : Nat → List UInt8) (n : Nat) : catL B (n + 1) = catL B n ++ B n := by simp [catL, List.range_succ, List.flatMap_append]
theorem catL_mono (B : Nat → List UInt8) {i n : Nat} (h : i ≤ n) : (catL B i).length ≤ (catL B n).length := by
  induction n with
  | zero => have : i = 0 := by omega
            subst this; exact Nat.le_refl _
  | succ n ih =>
    rcases Nat.lt_or_ge n i with h1 | h1
    · have : i = n + 1 := by omega
      subst this; exact Nat.le_refl _
    · have := ih h1; rw [catL_succ, List.length_append]; omega
theorem catL_congr {B D : Nat → List UInt8} {n : Nat} (h : ∀ k, k < n → B k = D k) : catL B n = catL D n := by
  induction n with
  | zero => rfl
  | succ n ih => rw [catL_succ, catL_succ, ih (fun k hk => h k (by omega)), h n (Nat.lt_succ_self n)]
def zer (n : Nat) : List Value := List.replicate n (.int .u8 0)
theorem madeZer (N : Nat) : madeCells #[.int .u8 0] N = (zer N).toArray := by
  refine Array.ext (by rw [size_madeCells]; simp [zer]) fun i h1 h2 => ?_
  simp [madeCells, zer, Nat.mod_one]
/-- Each of ls reads, the k-th B k. -/
def Rds (w : World) (ls : List Value) (B : Nat → List UInt8) : Prop := ∀ k x, ls[k]? = some x → Rd w x (bytesV (B k))
theorem cat_splice (B : Nat → List UInt8) (N i : Nat) (h : (catL B (i + 1)).length ≤ N) :
    splice (bytesV (catL B i) ++ zer (N - (catL B i).length)) (catL B i).length (bytesV (B i)) = bytesV (catL B (i + 1)) ++ zer (N - (catL B (i + 1)).length) := by
  rw [catL_succ, List.length_append] at h
  unfold splice
  rw [catL_succ, List.take_left' (bytesV_length _), List.drop_append, bytesV_append, List.drop_eq_nil_of_le (by rw [bytesV_length, bytesV_length]; omega), bytesV_length, bytesV_length, List.length_append]
  unfold zer
  rw [List.drop_replicate]
  simp only [List.append_assoc, List.nil_append]
  congr 3
  omega

set_option maxRecDepth 100000 in
set_option maxHeartbeats 2000000 in
theorem cat_any (w : World) (a : Option Addr) (m c : Nat) (ls : List Value) (B : Nat → List UInt8) (hr : Rd w (.slice a m c) ls) (hB : Rds w ls B) (hl : ls.length ≤ 1000000000) (hn : (catL B ls.length).length ≤ 1000000000) :
    Calls Tryd.prog 35 #[.slice a m c] w fun e w' => ∃ v, e = .returned v ∧ Own w' w.heap.size 5 v (bytesV (catL B ls.length)) ∧ Below w.heap.size w w' := by
  have hm : m = ls.length := by obtain ⟨A, c', h, _⟩ := hr; injection h with _ h _
  subst hm
  have HB := Lib.hid hB
  have HR := Lib.hid hr
  clear hB hr
  have he : (Tryd.prog.info? 5).map (·.size) = some 1 := by kernel_rfl
  have hmon : ∀ i, i ≤ ls.length → (catL B i).length ≤ (catL B ls.length).length := fun i h => catL_mono B h
  have HM := Lib.hid hmon
  clear hmon
  go_enter Tryd.func35, Tryd.ntmps35
  go_wp2
  go_loopw [3, 12] (fun s3 s12 wr => ∃ i : Nat, s12 = .int .i64 i ∧ i ≤ ls.length ∧ s3 = .int .i64 ((catL B i).length : Nat) ∧ w = wr) (fun _ s _ => ls.length - (intOf s).toNat)
  case atStart => exact ⟨0, rfl, Nat.zero_le _, rfl, rfl⟩
  case round =>
    obtain ⟨i, rfl, hi, rfl, rfl⟩ := hrel
    by_cases hlt : i < ls.length
    · obtain ⟨A, c', h, hc, hgg⟩ := HR.out
      obtain ⟨b, o, rfl, hg⟩ := hgg (by omega)
      injection h with ha _ _
      subst ha
      obtain ⟨x, hx⟩ : ∃ x, ls[i]? = some x := ⟨_, List.getElem?_eq_getElem hlt⟩
      have hcx := hg i x hx
      obtain ⟨A2, c2, rfl, _, _⟩ := HB.out i x hx
      rw [bytesV_length] at hcx
      have h1 := HM.out (i + 1) hlt
      rw [catL_succ, List.length_append] at h1
      have h2 : ((catL B i).length : Int) + ((B i).length : Int) ≤ 1000000000 := by omega
      clear hg hgg hx
      go_wp2
      go_roundw
      case rel => exact ⟨i + 1, by go_num, by omega, by rw [catL_succ, List.length_append]; go_num, trivial⟩
      case measure => simp [intOf]; omega
    · obtain rfl : i = ls.length := by omega
      obtain ⟨N, hN⟩ : ∃ N, (catL B ls.length).length = N := ⟨_, rfl⟩
      have hNb : (N : Int) ≤ 1000000000 := by omega
      have hNb2 : N ≤ 1000000000000 := by omega
      have hN2 := Lib.hid hN
      clear hi hlt hn
      rw [hN]
      clear hN
      have hmk := fun (w : World) => make_row elBytes rfl N hNb2 (N : Int) rfl w
      have hz0 : (w.alloc (.cells (madeCells #[.int .u8 0] N) 5)).heap[w.heap.size]? = some (.cells (zer N).toArray 5 (0, 0)) := by rw [heap_alloc_new, madeZer]
      go_wp2
      go_loopw [7, 25] (fun s7 s25 wr => ∃ i : Nat, s25 = .int .i64 i ∧ i ≤ ls.length ∧ s7 = .int .i64 ((catL B i).length : Nat) ∧ wr.heap[w.heap.size]? = some (.cells (bytesV (catL B i) ++ zer (N - (catL B i).length)).toArray 5 (0, 0)) ∧ Below w.heap.size w wr) (fun _ s _ => ls.length - (intOf s).toNat)
      case atStart =>
        have hz1 : (w.alloc (.cells (madeCells #[.int .u8 0] N) 5)).heap[w.heap.size]? = some (.cells (bytesV (catL B 0) ++ zer (N - (catL B 0).length)).toArray 5 (0, 0)) := hz0
        exact ⟨0, rfl, Nat.zero_le _, rfl, hz1, (Below.refl _ _).alloc (Nat.le_refl _) _⟩
      case round =>
        obtain ⟨i, rfl, hi, rfl, hh, hb⟩ := hrel
        by_cases hlt : i < ls.length
        · have hR := HR.out.below hb (Nat.le_refl _)
          obtain ⟨A, c', h, hc, hgg⟩ := hR
          obtain ⟨b, o, rfl, hg⟩ := hgg (by omega)
          injection h with ha _ hcc
          subst ha
          subst hcc
          obtain ⟨x, hx⟩ : ∃ x, ls[i]? = some x := ⟨_, List.getElem?_eq_getElem hlt⟩
          have hcx := hg i x hx
          have hxr := (HB.out i x hx).below hb (Nat.le_refl _)
          obtain ⟨A2, c2, rfl, hc2, hg2⟩ := hxr
          rw [bytesV_length] at hcx hc2 hg2
          have h1 := HM.out (i + 1) hlt
          rw [hN2.out] at h1
          have h3 := h1
          rw [catL_succ, List.length_append] at h1
          have h2 : ((catL B i).length : Int) ≤ N := by omega
          have h2' : (catL B i).length ≤ N := by omega
          clear hg hgg hx
          have HH := Lib.hid hh
          clear hh
          have k1 : (bytesV (B i)).length = Nat.min (B i).length (N - (catL B i).length) := by rw [bytesV_length]; exact (Nat.min_eq_left (by omega)).symm
          have k2 : (catL B i).length + (bytesV (B i)).length ≤ (bytesV (catL B i) ++ zer (N - (catL B i).length)).length := by simp [bytesV_length, zer]; omega
          have k3 := bytesV_one (B i)
          have K3 := Lib.hid k3
          have G2 := Lib.hid hg2
          clear k3 hg2
          go_upto_region 12 with fail
          go_wp2_with (with_reducible refine wpList_copy_splice rfl (.tmp 32) (.tmp 33) 24 24 rfl 5 Tryd.underlying24 he _ _ _ _ _ _ rfl rfl w.heap.size (catL B i).length _ 5 HH.out (bytesV (B i)) ?_ ?_ k2 K3.out w.heap.size w hb (Nat.le_refl _) ?_)
          case refine_2 =>
            intro hp
            obtain ⟨b', o', rfl, hg⟩ := G2.out (by have := hp; simp [Nat.min_def] at this; split at this <;> omega)
            exact ⟨fun h => by rw [← h] at hp; simp at hp, _, rfl, fun j v hj => by rw [addr_add]; exact hg j v hj⟩
          all_goals
            intro w' hid hb'
            have e := cat_splice B N i h3
            have k0 : (B i).length.min (N - (catL B i).length) = (B i).length := Nat.min_eq_left (by omega)
            try subst h
            try (rw [Nat.sub_self] at e)
            rw [e] at hid
            go_wp2
            go_roundw
            case rel => exact ⟨i + 1, by go_num, by omega, congrArg (Value.int .i64) (by rw [catL_succ, List.length_append]; omega), hid, hb'⟩
            case measure => simp [intOf]; omega
        · obtain rfl : i = ls.length := by omega
          go_wp2
          refine bodyPost_ret (results_tmp rfl _ _ _) ?_ ?_
          · rfl
          have hh2 := hh
          rw [hN2.out, Nat.sub_self] at hh2
          refine ⟨_, rfl, .inr ⟨w.heap.size, N, _, ?_, Nat.le_refl _, hh2, ?_, ?_, ?_, ?_⟩, hb⟩
          · rw [bytesV_length, hN2.out]; rfl
          · rw [bytesV_length, hN2.out]; exact Nat.le_refl _
          · simp [bytesV_length, hN2.out, zer]
          · unfold maxLen; omega
          · simp [zer]
end Go.Proofs.YthnpbfadblcicaaDoor
