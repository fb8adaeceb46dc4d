/- Laws of memory and lists that no program occurs in: owned slices, what a call leaves alone, small facts on integers. -/
import Derived.WalkKit
import Derived.ProofKit
import Derived.OpenShut
import Derived.Lib.Hide
import Derived.Lib.BitFns
import Derived.Lib.MinMax
import Derived.Deep.OwnRows
import Derived.Deep.Draws
import Derived.Deep.DeepCutAuto
import Derived.Deep.QuietTactic
import Derived.BigQuiet
import Derived.StillTailTactics
import Derived.Deep.RegionLaw
namespace Go.Proofs.Ytejmjjgbbojfbaa
open Go.RowKit

theorem ret_int {k : IntKind} {a b : Int} (h : a = b) : Ending.returned (.int k a) = .returned (.int k b) := by rw [h]
theorem ret_bool {a b : Bool} (h : a = b) : Ending.returned (.bool a) = .returned (.bool b) := by rw [h]
theorem ret_val {a b : Value} (h : a = b) : Ending.returned a = .returned b := by rw [h]

/-! ### Numbers -/
theorem wrap64_nat (n : Nat) (h : n ≤ 9223372036854775807) : wrap64 (n : Int) = n := IntWalk.wrap64_in _ ⟨by omega, by omega⟩
theorem xor_i64 (a b : Int) : bits .xor .i64 a b = IntKind.i64.wrap (((BitVec.ofInt 64 a ^^^ BitVec.ofInt 64 b).toNat : Nat) : Int) := rfl
theorem wrap_i64_nat (n : Nat) (h : n < 18446744073709551616) : IntKind.i64.wrap (n : Int) = if n < 9223372036854775808 then (n : Int) else (n : Int) - 18446744073709551616 := by
  rw [IntKind.wrap_i64]; split <;> omega
theorem xor_ones (x : Int) (h0 : 0 ≤ x) (h1 : x ≤ 18446744073709551615) : bits .xor .u64 x 18446744073709551615 = 18446744073709551615 - x := by
  rw [u64_xor _ _ h0 (by omega) (by omega) (by omega)]
  have e : x.toNat ^^^ (18446744073709551615 : Int).toNat = 18446744073709551615 - x.toNat := by
    have hb : x.toNat < 2 ^ 64 := by omega
    apply Nat.eq_of_testBit_eq
    intro i
    rw [Nat.testBit_xor, show (18446744073709551615 : Int).toNat = 2 ^ 64 - 1 from rfl, Nat.testBit_two_pow_sub_one, show 18446744073709551615 - x.toNat = 2 ^ 64 - (x.toNat + 1) by omega, Nat.testBit_two_pow_sub_succ hb]
    by_cases hi : i < 64
    · simp [hi]
    · have : x.toNat.testBit i = false := Nat.testBit_lt_two_pow (Nat.lt_of_lt_of_le hb (Nat.pow_le_pow_right (by decide) (by omega)))
      simp [hi, this]
  rw [e]; omega
theorem xor_zero (x : Int) (h0 : 0 ≤ x) (h1 : x ≤ 18446744073709551615) : bits .xor .u64 x 0 = x := by
  rw [u64_xor _ _ h0 (by omega) (by omega) (by omega)]
  simp; omega

theorem bitLen_or1 (n : Nat) (h : n < 2 ^ 64) : Lib.bitLen (n ||| 1) = max 1 (Lib.bitLen n) := by
  have h2 : (n ||| 1) / 2 = n / 2 := by rw [Nat.or_div_two]; simp
  have h3 : n ||| 1 < 2 ^ 64 := Nat.or_lt_two_pow h (by decide)
  have h4 : n ||| 1 ≠ 0 := by simp
  by_cases h0 : n = 0
  · subst h0; decide
  · rw [Lib.bitLen_half _ h4 h3, Lib.bitLen_half _ h0 h, h2]; omega
theorem bitLen_small (n : Nat) (h : n < 128) : Lib.bitLen n ≤ 7 := Lib.bitLen_le n 7 (by decide) h
theorem bitLen_pos (n : Nat) (h0 : n ≠ 0) (h : n < 2 ^ 64) : 1 ≤ Lib.bitLen n := by rw [Lib.bitLen_half _ h0 h]; omega

/-- The bytes of a uvarint. -/
def uvar (n : Nat) : List Nat := if n < 128 then [n] else (128 + n % 128) :: uvar (n / 128)
termination_by n
decreasing_by omega
theorem uvar_small {n : Nat} (h : n < 128) : uvar n = [n] := by rw [uvar, if_pos h]
theorem uvar_big {n : Nat} (h : ¬ n < 128) : uvar n = (128 + n % 128) :: uvar (n / 128) := by rw [uvar, if_neg h]
theorem uvar_length : ∀ n : Nat, n < 2 ^ 64 → (uvar n).length = (Lib.bitLen (n ||| 1) + 6) / 7 := by
  intro n
  induction n using Nat.strongRecOn with
  | _ n ih =>
    intro hn
    rw [bitLen_or1 n hn]
    by_cases h : n < 128
    · have := bitLen_small n h
      rw [uvar_small h]
      simp only [List.length_cons, List.length_nil]
      by_cases h0 : n = 0
      · subst h0; decide
      · have := bitLen_pos n h0 hn; omega
    · rw [uvar_big h, List.length_cons, ih (n / 128) (by omega) (by omega), bitLen_or1 _ (by omega)]
      have e := Lib.bitLen_shift 7 n (by omega) hn
      have := bitLen_pos (n / 128) (by omega) (by omega)
      rw [e, show n / 2 ^ 7 = n / 128 by rfl]
      omega
theorem uvar_le (n : Nat) (h : n < 2 ^ 64) : 1 ≤ (uvar n).length ∧ (uvar n).length ≤ 10 := by
  have := Lib.bitLen_le n 64 (by decide) h
  rw [uvar_length n h, bitLen_or1 n h]; omega

/-- Bytes as cells. -/
def bytesV (l : List Nat) : List Value := l.map fun (b : Nat) => Value.int .u8 ((b : Nat) : Int)
theorem bytesV_append (a b : List Nat) : bytesV (a ++ b) = bytesV a ++ bytesV b := by simp [bytesV]
theorem bytesV_length (a : List Nat) : (bytesV a).length = a.length := by simp [bytesV]

/-- The facts on a slice type t with elements e of one cell. -/
structure Elem (P : Program) (t e : TypeId) (z : Value) (bytes : Nat) : Prop where
  und : P.underlying t = some (.slice e)
  info : (P.info? e).map (fun i => (i.zero, i.size, i.bytes)) = some (some z, 1, bytes)
  zc : z.cells.size = 1
  sm : bytes ≤ 100

/-- v is a slice that the call owns (from block base on), and it holds just xs. -/
def Own (w : World) (base : Nat) (e : TypeId) (v : Value) (xs : List Value) : Prop := w.ownsRow base e 1 v xs.length xs

theorem own_nil (w : World) (base : Nat) (e : TypeId) : Own w base e (.slice none 0 0) [] := World.ownsRow_nil _ _ _ _

/-- []T{}: an empty list of the call's own. -/
theorem own_empty (w : World) (base : Nat) (e : TypeId) (h : base ≤ w.heap.size) : Own (w.alloc (.cells #[] e)) base e (.slice (some ⟨w.heap.size, 0, none⟩) 0 0) [] :=
  World.ownsRow_made w #[] 0 h (by decide) (by simp)

theorem own_one (w : World) (base : Nat) (e : TypeId) (x : Value) (h : base ≤ w.heap.size) : Own (w.alloc (.cells #[x] e)) base e (.slice (some ⟨w.heap.size, 0, none⟩) 1 1) [x] :=
  ⟨rfl, .inr ⟨w.heap.size, 1, #[x], rfl, h, heap_alloc_new w _, Nat.le_refl _, by decide, rfl, rfl⟩⟩

theorem Own.kept {w w' : World} {base : Nat} {e : TypeId} {v : Value} {xs : List Value} {row : Option Nat} (h : Own w base e v xs) (hg : w.grownBy w' row) (hne : v.ownBlock = none ∨ v.ownBlock ≠ row) : Own w' base e v xs :=
  World.ownsRow.kept h hg hne

theorem Own.alloc {w : World} {base : Nat} {e : TypeId} {v : Value} {xs : List Value} (h : Own w base e v xs) (o : Obj) : Own (w.alloc o) base e v xs := World.ownsRow.alloc h o
theorem Own.drew {w : World} {base : Nat} {e : TypeId} {v : Value} {xs : List Value} (h : Own w base e v xs) : Own w.drew base e v xs := h

theorem Own.lt {w : World} {base : Nat} {e : TypeId} {v : Value} {xs : List Value} (h : Own w base e v xs) : ∀ k, v.ownBlock = some k → base ≤ k ∧ k < w.heap.size := World.ownsRow.lt h

theorem own_slice {w : World} {base : Nat} {e : TypeId} {v : Value} {xs : List Value} (h : Own w base e v xs) : ∃ a c, v = .slice a xs.length c := by
  rcases h.2 with ⟨hv, h3⟩ | ⟨g, cap, cur, hv, _⟩
  · exact ⟨none, 0, by rw [hv, h3]⟩
  · exact ⟨_, _, hv⟩

/-- The shape of an owned value. -/
theorem Own.shape {w : World} {base : Nat} {e : TypeId} {v : Value} {xs : List Value} (h : Own w base e v xs) :
    (v = .slice none 0 0 ∧ xs = []) ∨ ∃ g cap, v = .slice (some ⟨g, 0, none⟩) xs.length cap ∧ base ≤ g ∧ g < w.heap.size ∧ xs.length ≤ cap ∧ cap ≤ maxLen ∧ ∀ j x, xs[j]? = some x → w.cell? ⟨g, j, none⟩ = some x := by
  obtain ⟨h1, h2⟩ := h
  rcases h2 with ⟨hv, h3⟩ | ⟨g, cap, cur, hv, hb, hg, hn, hm, hc, ht⟩
  · exact .inl ⟨hv, List.eq_nil_of_length_eq_zero h3⟩
  · refine .inr ⟨g, cap, hv, hb, (Array.getElem?_eq_some_iff.1 hg).1, hn, hm, fun j x hx => ?_⟩
    rw [cell_of_row _ _ _ _ _ _ hg]
    rw [← ht, List.getElem?_take] at hx
    split at hx
    · simpa using hx
    · cases hx

theorem Own.below {w w' : World} {base B : Nat} {e : TypeId} {v : Value} {xs : List Value} (h : Own w base e v xs) (hb : Below B w w') (hB : w.heap.size ≤ B) : Own w' base e v xs := by
  refine ⟨h.1, ?_⟩
  rcases h.2 with h2 | ⟨g, cap, cur, hv, hg, hh, r⟩
  · exact .inl h2
  · exact .inr ⟨g, cap, cur, hv, hg, (hb.block g (Nat.lt_of_lt_of_le (Array.getElem?_eq_some_iff.1 hh).1 hB)).trans hh, r⟩

/-- An owned list that is not empty: its place, and its cells. -/
theorem Own.pos {w : World} {base : Nat} {e : TypeId} {v : Value} {xs : List Value} (h : Own w base e v xs) (hn : 0 < xs.length) :
    ∃ g cap, v = .slice (some ⟨g, 0, none⟩) xs.length cap ∧ base ≤ g ∧ g < w.heap.size ∧ xs.length ≤ cap ∧ cap ≤ maxLen ∧ ∀ j x, xs[j]? = some x → w.cell? ⟨g, j, none⟩ = some x := by
  rcases h.shape with ⟨_, h0⟩ | h1
  · rw [h0] at hn; simp at hn
  · exact h1

theorem below_drewN {B : Nat} {a w : World} (h : Below B a w) (n : Nat) : Below B a (w.drewN n) := ⟨h.os, h.tape, h.output, h.size, h.block⟩

/-- append(v, x), v owned: what the built-in does; the world that is left: w0 with new blocks, and writes to v's own block alone. -/
theorem wp_ap1 {P : Program} {t e : TypeId} {z : Value} {bytes : Nat} (E : Elem P t e z bytes) {w0 : World} {x : Value} (hx1 : x.oneCell' = true)
    {base : Nat} {v : Value} {xs : List Value} (hown : Own w0 base e v xs) (hlen : xs.length < 1000000000000) (hbase : base ≤ w0.heap.size)
    {o : Oper} {a : Act} {K : Act → World → Prop} {Q : Exit → Act → World → Prop} (s y : Operand)
    (ho : o.op = .call { callee := .builtin .append, args := #[s, y], argTypes := #[t, t] }) (hs : a.eval s = v) (hy : a.eval y = .slice (some ⟨w0.heap.size, 0, none⟩) 1 1)
    (h : ∀ v' w', Own w' base e v' (xs ++ [x]) → w0.grownBy w' v.ownBlock → K (a.put o.dst v') w') : o.wp P a (w0.alloc (.cells #[x] e)) K Q := by
  obtain ⟨i, hi, hz0, hz1, hz2⟩ := info_parts E.info
  have hbytes : (xs.length + 1) * bytes ≤ 140737488355328 := Nat.le_trans (Nat.mul_le_mul (show xs.length + 1 ≤ 1000000000000 by omega) E.sm) (by decide)
  refine wp_append_own _ s y t ho base e i z 1 bytes E.und hi hz0 hz1 hz2 E.zc (by decide) v xs.length xs hs (World.ownsRow.alloc hown _) ⟨w0.heap.size, 0, none⟩ 1 1 [x] hy rfl ?_ ?_ ?_ hbytes ?_ ?_
  · intro j u hj
    match j, hj with
    | 0, hj => simp at hj; subst hj; simp [Addr.add]
    | j + 1, hj => simp at hj
  · intro u hu; simp at hu; subst hu; exact hx1
  · unfold maxLen; omega
  · simp; omega
  · intro v' w' h1 h2 _
    refine h v' w' ?_ ⟨h2.os, h2.tape, h2.output, Nat.le_trans (by simp) h2.size, fun k hk hne => ?_⟩
    · unfold Own; simpa using h1
    · rw [h2.block k (by simp; omega) hne]; exact Below.heap_alloc _ _ _ hk

/-- The same as a law of the walk. -/
theorem ap1 {P : Program} {t e : TypeId} {z : Value} {bytes : Nat} (E : Elem P t e z bytes) {w0 : World} {x : Value} (hx1 : x.oneCell' = true)
    {base : Nat} {v : Value} {xs : List Value} (hown : Own w0 base e v xs) (hlen : xs.length < 1000000000000) (hbase : base ≤ w0.heap.size)
    {ops : Array Oper} {rest : List Oper} {o : Oper} {a : Act} {Q : Exit → Act → World → Prop} (hgd : o.guard = none) (s y : Operand)
    (ho : o.op = .call { callee := .builtin .append, args := #[s, y], argTypes := #[t, t] }) (hs : a.eval s = v) (hy : a.eval y = .slice (some ⟨w0.heap.size, 0, none⟩) 1 1)
    (h : ∀ v' w', Own w' base e v' (xs ++ [x]) → w0.grownBy w' v.ownBlock → wpList P ops Q rest (a.put o.dst v') w') : wpList P ops Q (o :: rest) a (w0.alloc (.cells #[x] e)) :=
  wpList_plain hgd fun _ hK => wp_ap1 E hx1 hown hlen hbase s y ho hs hy fun v' w' h2 h3 => hK _ _ (h v' w' h2 h3)

/-- The same as a step of a region that draws its order. -/
theorem step_ap1 {P : Program} {t e : TypeId} {z : Value} {bytes : Nat} (E : Elem P t e z bytes) {w0 : World} {x : Value} (hx1 : x.oneCell' = true)
    {base : Nat} {v : Value} {xs : List Value} (hown : Own w0 base e v xs) (hlen : xs.length < 1000000000000) (hbase : base ≤ w0.heap.size)
    {ops : Array Oper} {o : Oper} {a : Act} {K : Act → World → Prop} {Q : Exit → Act → World → Prop} {F : Prop} (hgd : o.guard = none) (s y : Operand)
    (ho : o.op = .call { callee := .builtin .append, args := #[s, y], argTypes := #[t, t] }) (hs : a.eval s = v) (hy : a.eval y = .slice (some ⟨w0.heap.size, 0, none⟩) 1 1)
    (h : ∀ v' w', Own w' base e v' (xs ++ [x]) → w0.grownBy w' v.ownBlock → K (a.put o.dst v') w') :
    if Region.wanted o (yielded ops a.tmps) = true then Oper.wp P o a (w0.alloc (.cells #[x] e)) K Q else F := by
  rw [if_pos (by simp [Region.wanted, hgd])]
  exact wp_ap1 E hx1 hown hlen hbase s y ho hs hy h

/-! ### Small laws of the walk -/
theorem own_last {w : World} {base : Nat} {e : TypeId} {v : Value} {xs : List Value} {k : IntKind} {x y : Int} (h : Own w base e v (xs ++ [.int k x])) (hx : x = y) : Own w base e v (xs ++ [.int k y]) := by
  rw [← hx]; exact h
theorem own_base {w : World} {base base' : Nat} {e : TypeId} {v : Value} {xs : List Value} (h : Own w base e v xs) (hb : base' ≤ base) : Own w base' e v xs := by
  refine ⟨h.1, ?_⟩
  rcases h.2 with h2 | ⟨g, cap, cur, hv, hg, r⟩
  · exact .inl h2
  · exact .inr ⟨g, cap, cur, hv, Nat.le_trans hb hg, r⟩

@[go_sem high] theorem run_min_ints3 {P : Program} (w : World) (ts : Array TypeId) (t : TypeId) (k k1 k2 : IntKind) (x y z : Int) :
    (Builtin.min_ ts t #[.int k x, .int k1 y, .int k2 z]).run P w = .ok (.int k (min (min x y) z)) w := by
  have e : ∀ a b : Int, (if b < a then b else a) = min a b := fun a b => by omega
  simp [Builtin.min_, Builtin.min2, e]
@[go_sem high] theorem run_min_ints4 {P : Program} (w : World) (ts : Array TypeId) (t : TypeId) (k k1 k2 k3 : IntKind) (x y z u : Int) :
    (Builtin.min_ ts t #[.int k x, .int k1 y, .int k2 z, .int k3 u]).run P w = .ok (.int k (min (min (min x y) z) u)) w := by
  have e : ∀ a b : Int, (if b < a then b else a) = min a b := fun a b => by omega
  simp [Builtin.min_, Builtin.min2, e]
theorem make_row {P : Program} {t e : TypeId} {z : Value} {bytes : Nat} (E : Elem P t e z bytes) (hz1 : z.cells = #[z]) (n : Nat) (hn : n ≤ 1000000000000) (k : Int) (hk : k = n) (w : World) :
    (Instr.makeSlice t (.int .i64 k) (.int .i64 k)).run P w = .ok (.slice (some ⟨w.heap.size, 0, none⟩) n n) (w.alloc (.cells (madeCells #[z] n) e)) := by
  subst hk
  exact run_make_row' t e z bytes E.und E.info hz1 .i64 .i64 n (Nat.le_trans (Nat.mul_le_mul E.sm hn) (by decide)) (by omega) w

theorem bytes_ne {a b : ByteArray} {i j : Nat} {hi : i < a.size} {hj : j < b.size} (h : (((a[i]).toNat : Int) != ((b[j]).toNat : Int)) = true) : ¬ a.data.toList[i]'(by simpa using hi) = b.data.toList[j]'(by simpa using hj) := by
  intro e
  have e2 : a[i] = b[j] := by rw [Array.getElem_toList, Array.getElem_toList] at e; exact e
  rw [e2] at h
  simp at h
theorem bytes_eq {a b : ByteArray} {i j : Nat} {hi : i < a.size} {hj : j < b.size} (h : (((a[i]).toNat : Int) != ((b[j]).toNat : Int)) = false) : a.data.toList[i]'(by simpa using hi) = b.data.toList[j]'(by simpa using hj) := by
  have h1 : (a[i]).toNat = (b[j]).toNat := Int.ofNat.inj (by simpa using h)
  have h2 : a[i] = b[j] := UInt8.toNat_inj.1 h1
  rw [Array.getElem_toList, Array.getElem_toList]; exact h2
/-- ints as cells -/
def intsV (f : Nat → Nat) (n : Nat) : List Value := (List.range n).map fun k => Value.int .i64 ((f k : Nat) : Int)
theorem intsV_length (f : Nat → Nat) (n : Nat) : (intsV f n).length = n := by simp [intsV]
theorem intsV_succ (f : Nat → Nat) (n : Nat) : intsV f (n + 1) = intsV f n ++ [.int .i64 ((f n : Nat) : Int)] := by simp [intsV, List.range_succ]
theorem intsV_get (f : Nat → Nat) (n k : Nat) (h : k < n) : (intsV f n)[k]? = some (.int .i64 ((f k : Nat) : Int)) := by simp [intsV, h]
theorem intsV_congr {f g : Nat → Nat} {n : Nat} (h : ∀ k, k < n → f k = g k) : intsV f n = intsV g n := by
  unfold intsV; exact List.map_congr_left fun k hk => by rw [h k (List.mem_range.1 hk)]

theorem row_upd {w : World} {g n : Nat} {t : TypeId} {f : Nat → Nat} (h : w.rowIs g t n (fun k => .int .i64 (f k : Nat))) (p v : Nat) (x : Int) (hx : x = v) :
    (w.setCell ⟨g, p, none⟩ (.int .i64 x)).rowIs g t n (fun k => .int .i64 ((if k = p then v else f k : Nat) : Int)) := by
  subst hx
  refine (h.set p _).congr fun k _ => ?_
  by_cases e : k = p
  · rw [if_pos e, if_pos e]
  · rw [if_neg e, if_neg e]

/-! ### The row's last step, where of the world behind the call no more is known than that nothing that was there has turned -/
section
open Go.WideShapes Go.ChangeShapes
variable {H : Type} {enc : TypeId × Value → H} {P : Program}
theorem post_below {f : Func} {s : ChangeSpec} {apart fresh handsOn again : Bool} {W W' : World} {args : Array Value} {v : Value} {ds gs : List (DataW H)} {before pa pv : List MemPlace}
    (hW : DataW.Whole enc P f.params.toList s.vars apart W args.toList ds gs before)
    (hres : ∀ (b : Nat) (sp : Nat → Bool) (hd : Bool), DataW.TrodAll enc P W' b sp hd f.resultTypes.toList (v.resultList f.resultTypes.size) (s.fn H (ds ++ gs)).results [])
    (hargs : ∀ sp : Nat → Bool, (∀ p ∈ before, sp p.block = true) → DataW.TrodAll enc P W' 0 sp true f.params.toList args.toList (s.fn H (ds ++ gs)).args pa)
    (hvars : ∀ sp : Nat → Bool, (∀ p ∈ before, sp p.block = true) → DataW.TrodVars enc P W' sp s.vars (s.fn H (ds ++ gs)).vars pv)
    (hps : before = pa ++ pv) (hb : Below W.heap.size W W')
    (hok : ∀ (j : Nat) (t : TypeId) (r : Value), f.resultTypes[j]? = some t → (v.resultList f.resultTypes.size)[j]? = some r → Value.okWide P W' .any 0 t r) :
    s.post enc P f apart fresh handsOn again W args v W' := by
  have hold : ∀ p ∈ before, (fun b => decide (b < W.heap.size)) p.block = true := fun p hp => by simpa using hW.lt p hp
  have hz0 := hW.lt
  refine ⟨ds, gs, before, [], pa, pv, hW, hres _ _ _, hargs _ hold, hvars _ hold, World.keptBut_mono (fun p hp => ⟨hp, ?_⟩) (hb.frame (· ∈ before)), fun _ => ?_⟩
  · rw [hps, List.mem_append] at hp
    exact Or.inr hp
  · obtain ⟨_, _, _, _, _, hz, hn⟩ := hW
    refine ⟨hok, _, _, ([] ++ pa) ++ pv, ⟨[] ++ pa, pv, trodAll_append (hargs _ (fun _ _ => rfl)) (hres _ _ _), hvars _ (fun _ _ => rfl), rfl, ?_, ?_⟩, ?_⟩
    · intro b off hp
      have hin : MemPlace.cell b off ∈ before := by rw [hps]; simpa using hp
      rw [hb.frozen (hz0 _ hin)]
      exact hz b off hin
    · intro ha
      simpa [hps] using hn ha
    · intro p hp _
      rw [hps]; simpa using hp
theorem trodAll_keep {W W' : World} (hl : laidOutB P = true) (hb : Below W.heap.size W W') (sp : Nat → Bool) : ∀ (ts : List TypeId) (vs : List Value) (ds : List (DataW H)) (ps : List MemPlace),
    ts.all (fun t => P.readableRec t && decide (t < P.types.size)) = true → DataW.TrodAll enc P W 0 (fun _ => true) true ts vs ds ps → (∀ p ∈ ps, p.block < W.heap.size) → (∀ p ∈ ps, sp p.block = true) → DataW.TrodAll enc P W' 0 sp true ts vs ds ps := by
  intro ts
  induction ts with
  | nil =>
    intro vs ds ps _ h _ _
    cases vs <;> cases ds <;> simp [DataW.TrodAll] at h
    subst h
    exact trodAll_mk0
  | cons t ts ih =>
    intro vs ds ps ht h hlt hsp
    obtain ⟨v, vs', d, ds', p, q, rfl, rfl, rfl, hd, hr⟩ := trodAll_cons h
    simp only [List.all_cons, Bool.and_eq_true, decide_eq_true_eq] at ht
    exact trodAll_cons_mk (WideElems.Trod_stays hl ht.1.1 ht.1.2 hd (fun x hx => hb.same (hlt x (by simp [hx]))) (fun x hx => hsp x (by simp [hx])))
      (ih vs' ds' q ht.2 hr (fun x hx => hlt x (by simp [hx])) (fun x hx => hsp x (by simp [hx])))
end

end Go.Proofs.Ytejmjjgbbojfbaa
